/- The contracts of package disk, for a disk that is right, wherever it lies. -/
import Derived.Test.YtfnfapgmicmegaaDisk6
namespace Go.Proofs.Ytfnfapgmicmegaa
open Go.RowKit Go.Maps Go.Joins
set_option linter.unusedVariables false

/-- A disk that is right; at most k writes wait. -/
structure DOk (m : DM) (k : Nat) : Prop where
  size : SizeOk m
  wait : WaitOk m
  fuse : m.fuse ≤ 9223372036854775807
  fuse1 : -1 ≤ m.fuse
  pos : 1 ≤ m.sure.length
  few : m.sure.length ≤ 65536
  waits : m.wait.length ≤ k

theorem DOk.mono {m : DM} {k j : Nat} (h : DOk m k) (hj : k ≤ j) : DOk m j := ⟨h.size, h.wait, h.fuse, h.fuse1, h.pos, h.few, Nat.le_trans h.waits hj⟩
theorem DOk.new {su : List ByteArray} (h : ∀ t ∈ su, t.size = 64) (h1 : 1 ≤ su.length) (h2 : su.length ≤ 65536) : DOk (newM su) 0 :=
  ⟨⟨h, fun x hx => by cases hx⟩, fun x hx => by (cases hx), by simp [newM], by simp [newM], h1, h2, Nat.le_refl _⟩
theorem newSu_size (n : Nat) : ∀ t ∈ newSu n, t.size = 64 := by
  intro t ht
  rw [List.eq_of_mem_replicate ht, S_size, nul_length]
theorem cutSu_size (s : ByteArray) (n : Nat) (hs : s.size = n * 64) : ∀ t ∈ cutSu s n, t.size = 64 := by
  intro t ht
  simp only [cutSu, List.mem_map, List.mem_range] at ht
  obtain ⟨i, hi, rfl⟩ := ht
  rw [ByteArray.size_extract]; omega
theorem DOk.burn {m : DM} {k : Nat} (h : DOk m k) : DOk (burnM m).2 k := by
  have h1 := h.fuse
  have h2 := h.fuse1
  unfold burnM
  split
  · exact ⟨h.size, h.wait, by show (-1 : Int) ≤ _; decide, by show (-1 : Int) ≤ -1; decide, h.pos, h.few, h.waits⟩
  · split
    · exact ⟨h.size, h.wait, by show m.fuse - 1 ≤ _; omega, by show -1 ≤ m.fuse - 1; omega, h.pos, h.few, h.waits⟩
    · exact h
theorem DOk.write {m : DM} {k : Nat} (h : DOk m k) (i : Int) (s : ByteArray) : DOk (wrM m i s).2 (k + 1) := by
  unfold wrM
  split
  · exact h.mono (by omega)
  · split
    · exact h.mono (by omega)
    · rename_i hne
      have hb := h.burn
      obtain ⟨e1, e2⟩ := burnM_wait m
      split
      · refine ⟨⟨hb.size.1, fun x hx => ?_⟩, fun x hx => ?_, hb.fuse, hb.fuse1, hb.pos, hb.few, ?_⟩
        · rcases List.mem_append.1 hx with hx | hx
          · exact hb.size.2 x hx
          · simp at hx; subst hx; show s.size = 64; omega
        · rcases List.mem_append.1 hx with hx | hx
          · exact hb.wait x hx
          · simp at hx; subst hx; exact ⟨i.toNat, by show i = _; omega, by rw [e2]; omega⟩
        · show ((burnM m).2.wait ++ [(i, s)]).length ≤ k + 1
          have := hb.waits
          simp; omega
      · exact hb.mono (by omega)
theorem flTo_mem : ∀ (l : List (Int × ByteArray)) (su : List ByteArray), (∀ t ∈ su, t.size = 64) → (∀ x ∈ l, x.2.size = 64) → ∀ t ∈ flTo su l, t.size = 64
  | [], su, h, _ => h
  | x :: l, su, h, hl => flTo_mem l _ (fun t ht => (List.mem_or_eq_of_mem_set ht).elim (h t) (fun e => by rw [e]; exact hl x (by simp))) (fun y hy => hl y (by simp [hy]))
theorem DOk.flush {m : DM} {k : Nat} (h : DOk m k) : DOk (flM m).2 k := by
  unfold flM
  obtain ⟨e1, e2⟩ := burnM_wait m
  split
  · exact h
  · have hb := h.burn
    split
    · refine ⟨⟨flTo_mem _ _ h.size.1 h.size.2, fun x hx => by cases hx⟩, fun x hx => by (cases hx), hb.fuse, hb.fuse1, ?_, ?_, Nat.zero_le _⟩
      · show 1 ≤ (flTo m.sure m.wait).length; rw [flTo_length]; exact h.pos
      · show (flTo m.sure m.wait).length ≤ 65536; rw [flTo_length]; exact h.few
    · exact hb
theorem DOk.setFuse {m : DM} {k : Nat} (h : DOk m k) (n : Int) (h2 : n ≤ 9223372036854775807) : DOk (fuM m n) k :=
  ⟨h.size, h.wait, by show max n (-1) ≤ _; omega, by show -1 ≤ max n (-1); omega, h.pos, h.few, h.waits⟩
theorem DOk.crash {m : DM} {k : Nat} (h : DOk m k) (kn : Nat) (kf : Nat → Bool) (torn b : Int) : DOk (crM m kn kf torn b) 0 := by
  refine ⟨⟨crN_size _ _ _ _ m (by omega) h.size _ (Nat.le_refl _), fun x hx => by cases hx⟩, fun x hx => by (cases hx), by show (-1 : Int) ≤ _; decide, by show (-1 : Int) ≤ -1; decide, ?_, ?_, Nat.le_refl _⟩
  · show 1 ≤ (crN _ _ _ _ _ _ _).length; rw [crN_length]; exact h.pos
  · show (crN _ _ _ _ _ _ _).length ≤ 65536; rw [crN_length]; exact h.few

theorem ownsRow_cap {w : World} {base n size g c : Nat} {e : TypeId} {a : Option Addr} {xs : List Value} (h : w.ownsRow base e size (.slice (some ⟨g, 0, none⟩) n c) n xs) : n ≤ c := by
  rcases h.2 with ⟨h0, _⟩ | ⟨g', cap, cur, hv, _, _, hc, _⟩
  · cases h0
  · cases hv; exact hc

section
variable {w : World} {d : Nat} {F : List Nat} {m : DM} {k : Nat}
theorem is_down (h : IsDisk w d F m) : Calls Try.prog 25 #[.pointer (some ⟨d, 0, none⟩)] w fun e w' => e = .returned (.bool m.down) ∧ w = w' := by
  obtain ⟨sb, sc, M, wv, D, h, rfl⟩ := h
  exact down_at _ _ _ h.cell.2.2.2.2
theorem is_len (h : IsDisk w d F m) : Calls Try.prog 15 #[.pointer (some ⟨d, 0, none⟩)] w fun e w' => e = .returned (.int .i64 m.sure.length) ∧ w = w' := by
  obtain ⟨sb, sc, M, wv, D, h, rfl⟩ := h
  exact len_at _ _ _ _ _ h.cell.1
theorem is_pending (h : IsDisk w d F m) : Calls Try.prog 20 #[.pointer (some ⟨d, 0, none⟩)] w fun e w' => e = .returned (.int .i64 m.wait.length) ∧ w = w' := by
  obtain ⟨sb, sc, M, wv, D, h, rfl⟩ := h
  rcases ownsRow_forms h.wait with ⟨e, h0⟩ | ⟨g, cap, e⟩
  · have c := h.cell.2.1
    rw [e] at c
    have := pending_at w d _ _ _ c
    rw [h0]; exact this
  · have c := h.cell.2.1
    rw [e] at c
    exact pending_at w d _ _ _ c
theorem is_read (h : IsDisk w d F m) (i : Int) (h1 : -9223372036854775808 ≤ i) (h2 : i ≤ 9223372036854775807) :
    Calls Try.prog 48 #[.pointer (some ⟨d, 0, none⟩), .int .i64 i] w fun e w' => e = .returned (.tuple #[.string (rdM m i).1, .int .i64 (rdM m i).2]) ∧ w = w' := by
  obtain ⟨sb, sc, M, wv, D, h, rfl⟩ := h
  exact read_any h i h1 h2
theorem is_fuse (h : IsDisk w d F m) (n : Int) (h1 : -9223372036854775808 ≤ n) (h2 : n ≤ 9223372036854775807) :
    Calls Try.prog 22 #[.pointer (some ⟨d, 0, none⟩), .int .i64 n] w fun e w' => e = .returned (.tuple #[]) ∧ Goes w w' d F (fuM m n) := by
  obtain ⟨sb, sc, M, wv, D, h, rfl⟩ := h
  exact (fuse_any h n h1 h2).mono fun e w' ⟨h1, h2, h3⟩ => ⟨h1, Goes.of_at h2 h3 (by simp [diskB])⟩
theorem is_write (h : IsDisk w d F m) (hk : DOk m k) (hkk : k ≤ 1000000000) (i : Int) (s : ByteArray) (h1 : -9223372036854775808 ≤ i) (h2 : i ≤ 9223372036854775807) (hs : s.size ≤ 9223372036854775807) :
    Calls Try.prog 32 #[.pointer (some ⟨d, 0, none⟩), .int .i64 i, .string s] w fun e w' => e = .returned (.int .i64 (wrM m i s).1) ∧ Goes w w' d F (wrM m i s).2 := by
  obtain ⟨sb, sc, M, wv, D, h, rfl⟩ := h
  exact write_any h i s h1 h2 hk.fuse hs (Nat.le_trans hk.waits hkk)
theorem is_flush (h : IsDisk w d F m) (hk : DOk m k) (hkk : k ≤ 1000000000) :
    Calls Try.prog 33 #[.pointer (some ⟨d, 0, none⟩)] w fun e w' => e = .returned (.int .i64 (flM m).1) ∧ Goes w w' d F (flM m).2 := by
  obtain ⟨sb, sc, M, wv, D, h, rfl⟩ := h
  exact flush_any h hk.wait hk.fuse (Nat.le_trans hk.waits hkk)
theorem is_crash (h : IsDisk w d F m) (hk : DOk m k) (hkk : k ≤ 1000000000) {kc kn : Nat} {a0 : Option Addr} {kf : Nat → Bool} (torn b : Int) (hkeep : KeepAt w a0 kn kf) (n5 : ∀ b off, a0 = some ⟨b, off, none⟩ → 0 < kn → b ∉ F)
    (b1 : -9223372036854775808 ≤ b) (b2 : b ≤ 9223372036854775807) :
    Calls Try.prog 23 #[.pointer (some ⟨d, 0, none⟩), .slice a0 kn kc, .int .i64 torn, .int .i64 b] w fun e w' => e = .returned (.tuple #[]) ∧ Goes w w' d F (crM m kn kf torn b) := by
  obtain ⟨sb, sc, M, wv, D, h, rfl⟩ := h
  exact crash_any h hk.wait hk.size (Nat.le_trans hk.waits hkk) torn b hkeep n5 b1 b2
theorem is_image (h : IsDisk w d F m) (hk : DOk m k) :
    Calls Try.prog 19 #[.pointer (some ⟨d, 0, none⟩)] w fun e w' => e = .returned (.string (imgM m.sure)) ∧ Below w.heap.size w w' := by
  obtain ⟨sb, sc, M, wv, D, h, rfl⟩ := h
  exact image_any h hk.size.1 hk.few (ownsRow_cap (a := none) h.sure)
end

end Go.Proofs.Ytfnfapgmicmegaa
