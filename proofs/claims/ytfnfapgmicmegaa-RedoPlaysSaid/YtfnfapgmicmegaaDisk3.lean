/- The contracts of Flush and Crash. -/
import Derived.Test.YtfnfapgmicmegaaDisk2
namespace Go.Proofs.Ytfnfapgmicmegaa
open Go.RowKit Go.Maps Go.Joins
set_option linter.unusedVariables false

/-- What Flush answers, and leaves. -/
def flM (m : DM) : Int × DM :=
  if m.down then (11, m) else if (burnM m).1 then (0, { (burnM m).2 with sure := flTo m.sure m.wait, wait := [] }) else (11, (burnM m).2)

theorem WaitOk.of_eq {m m' : DM} (h : WaitOk m) (h1 : m'.wait = m.wait) (h2 : m'.sure = m.sure) : WaitOk m' := by
  intro x hx; rw [h1] at hx; rw [h2]; exact h x hx
theorem Goes.after {w w1 w2 : World} {d : Nat} {F : List Nat} {m : DM} (t : Touch F w w1) (h : Goes w1 w2 d F m) : Goes w w2 d F m := by
  obtain ⟨F', hD, hT, hF⟩ := h
  exact ⟨F', hD, t.trans hT (fun b hb => .inl hb), fun b hb => (hF b hb).elim .inl (fun h' => .inr (Nat.le_trans t.size h'))⟩

set_option maxRecDepth 100000 in
set_option maxHeartbeats 2000000 in
theorem flush_any {w : World} {d sb sc M : Nat} {wv : Value} {D : DataW Unit} {m : DM} (h : DiskAt w d sb sc M wv D m) (hok : WaitOk m) (hf : m.fuse ≤ 9223372036854775807) (hl : m.wait.length ≤ 1000000000) :
    Calls Try.prog 33 #[.pointer (some ⟨d, 0, none⟩)] w fun e w' => e = .returned (.int .i64 (flM m).1) ∧ Goes w w' d (diskB d sb M wv) (flM m).2 := by
  obtain ⟨_, _, _, _, c4⟩ := h.cell
  by_cases hd : m.down = true
  · have F := Lib.hid (show flM m = (11, m) by simp [flM, hd])
    rw [hd] at c4
    clear hd
    go_enter Try.func33, Try.ntmps33
    go_wp2_with fail
    refine (down_at _ _ _ c4).mono ?_
    rintro e w1 ⟨rfl, rfl⟩
    go_wp2_with fail
    go_ret
    rw [F.out]
    exact ⟨rfl, Goes.of_at h (Touch.refl [] _) (by simp)⟩
  · have hd : m.down = false := by simpa using hd
    rw [hd] at c4
    have HB := Lib.hid (burn_any h hf)
    obtain ⟨e1, e2⟩ := burnM_wait m
    cases hb : (burnM m).1
    · have F := Lib.hid (show flM m = (11, (burnM m).2) by simp [flM, hd, hb])
      rw [hb] at HB
      clear hd hb e1 e2
      go_enter Try.func33, Try.ntmps33
      go_wp2_with fail
      refine (down_at _ _ _ c4).mono ?_
      rintro e w1 ⟨rfl, rfl⟩
      go_wp2_with fail
      refine HB.out.mono ?_
      rintro e w1 ⟨rfl, hD1, ht1⟩
      go_wp2_with fail
      go_ret
      rw [F.out]
      exact ⟨rfl, Goes.of_at hD1 ht1 (by simp [diskB])⟩
    · have F := Lib.hid (show flM m = (0, { (burnM m).2 with sure := flTo (burnM m).2.sure (burnM m).2.wait, wait := [] }) by simp [flM, hd, hb, e1, e2])
      rw [hb] at HB
      have hok1 := hok.of_eq e1 e2
      have hl1 : (burnM m).2.wait.length ≤ 1000000000 := by rw [e1]; exact hl
      clear hd hb e1 e2
      generalize (burnM m).2 = m1 at *
      go_enter Try.func33, Try.ntmps33
      go_wp2_with fail
      refine (down_at _ _ _ c4).mono ?_
      rintro e w1 ⟨rfl, rfl⟩
      go_wp2_with fail
      refine HB.out.mono ?_
      rintro e w1 ⟨rfl, hD1, ht1⟩
      go_wp2_with fail
      refine (settle_flush hD1 hok1 hl1).mono ?_
      rintro e w2 ⟨rfl, hG⟩
      go_wp2_with fail
      go_ret
      rw [F.out]
      exact ⟨rfl, Goes.after (ht1.mono (fun b hb => .inl (by simp at hb; subst hb; simp [diskB]))) hG⟩
set_option maxRecDepth 100000 in
theorem flush_nil (w : World) :
    Calls Try.prog 33 #[.pointer none] w fun e w' => e = .returned (.int .i64 11) ∧ w = w' := by
  go_enter Try.func33, Try.ntmps33
  go_wp2_with fail
  refine (down_nil _).mono ?_
  rintro e w1 ⟨rfl, rfl⟩
  go_wp2_with fail
  go_ret
  exact ⟨rfl, rfl⟩
set_option maxRecDepth 100000 in
theorem read_nil (w : World) (i : Int) :
    Calls Try.prog 48 #[.pointer none, .int .i64 i] w fun e w' => e = .returned (.tuple #[.string ⟨#[]⟩, .int .i64 11]) ∧ w = w' := by
  go_enter Try.func48, Try.ntmps48
  go_wp2_with fail
  refine (down_nil _).mono ?_
  rintro e w1 ⟨rfl, rfl⟩
  go_wp2_with fail
  go_ret2
  exact ⟨rfl, rfl⟩
set_option maxRecDepth 100000 in
theorem write_nil (w : World) (i : Int) (s : ByteArray) :
    Calls Try.prog 32 #[.pointer none, .int .i64 i, .string s] w fun e w' => e = .returned (.int .i64 11) ∧ w = w' := by
  go_enter Try.func32, Try.ntmps32
  go_wp2_with fail
  refine (down_nil _).mono ?_
  rintro e w1 ⟨rfl, rfl⟩
  go_wp2_with fail
  go_ret
  exact ⟨rfl, rfl⟩
set_option maxRecDepth 100000 in
theorem image_nil (w : World) :
    Calls Try.prog 19 #[.pointer none] w fun e w' => e = .returned (.string ⟨#[]⟩) ∧ w = w' := by
  go_enter Try.func19, Try.ntmps19
  go_wp2_with fail
  go_ret
  exact ⟨rfl, rfl⟩
set_option maxRecDepth 100000 in
theorem crash_nil (w : World) (a : Option Addr) (kn kc : Nat) (t n : Int) :
    Calls Try.prog 23 #[.pointer none, .slice a kn kc, .int .i64 t, .int .i64 n] w fun e w' => e = .returned (.tuple #[]) ∧ Below w.heap.size w w' := by
  go_enter Try.func23, Try.ntmps23
  go_wp2_with fail
  refine bodyPost_ret (results_none rfl _ _ _) rfl ?_
  exact ⟨rfl, below_alloc (below_alloc (below_alloc (below_alloc (Below.refl _ _))))⟩

/-! The crash's own function. -/
def crV (torn : Int) (n kn : Nat) (kf : Nat → Bool) (k : Nat) (s old : ByteArray) : ByteArray :=
  if (k : Int) = torn then s.extract 0 n ++ old.extract n old.size else if k < kn ∧ kf k = true then s else old
/-- The bools of a slice. -/
def KeepAt (w : World) (a : Option Addr) (kn : Nat) (kf : Nat → Bool) : Prop := kn = 0 ∨ ∃ b off, a = some ⟨b, off, none⟩ ∧ ∀ i, i < kn → w.cell? ⟨b, off + i, none⟩ = some (.bool (kf i))

set_option maxRecDepth 100000 in
set_option maxHeartbeats 2000000 in
theorem crashFn {W : World} {d sb sc N bt bb bd bk kc kn n j k : Nat} {torn : Int} {a : Option Addr} {kf : Nat → Bool} {s old : ByteArray}
    (c1 : W.cell? ⟨bt, 0, none⟩ = some (.int .i64 torn)) (c2 : W.cell? ⟨bb, 0, none⟩ = some (.int .i64 n)) (c3 : W.cell? ⟨bd, 0, none⟩ = some (.pointer (some ⟨d, 0, none⟩))) (c4 : W.cell? ⟨bk, 0, none⟩ = some (.slice a kn kc))
    (hk : KeepAt W a kn kf) (c5 : W.cell? ⟨d, 0, none⟩ = some (.slice (some ⟨sb, 0, none⟩) N sc)) (hj : j < N) (c6 : W.cell? ⟨sb, j, none⟩ = some (.string old)) (hn : n ≤ 64) (hs : s.size = 64) (ho : old.size = 64) :
    Calls Try.prog 41 #[.int .i64 k, .agg #[.int .i64 j, .string s], .pointer (some ⟨bt, 0, none⟩), .pointer (some ⟨bb, 0, none⟩), .pointer (some ⟨bd, 0, none⟩), .pointer (some ⟨bk, 0, none⟩)] W
      fun e w' => e = .returned (.string (crV torn n kn kf k s old)) ∧ ∃ q, w' = (W.alloc (.cells #[.int .i64 j, .string s] 83)).drewN q := by
  have l1 := cell_lt c1
  have l2 := cell_lt c2
  have l3 := cell_lt c3
  have l4 := cell_lt c4
  have l5 := cell_lt c5
  have l6 := cell_lt c6
  have j1 : (0 : Int) ≤ j := by omega
  have j2 : (j : Int) < N := by omega
  by_cases ht : (k : Int) = torn
  · have F := Lib.hid (show crV torn n kn kf k s old = s.extract 0 n ++ old.extract n old.size by simp [crV, ht])
    have e0 : ((k : Int) == torn) = true := by simp [ht]
    have z1 : s.size ≤ 64 := by omega
    have z2 : old.size ≤ 64 := by omega
    have z3 : n ≤ s.size := by omega
    have z4 : n ≤ old.size := by omega
    have z5 : (n : Int) ≤ s.size := by omega
    have z6 : (n : Int) ≤ old.size := by omega
    have z7 : (0 : Int) ≤ n := by omega
    clear ht hs ho hk
    go_enter Try.func41, Try.ntmps41
    go_wp2_with fail
    go_quiet (fail)
    go_wp2_with fail
    go_ret
    rw [F.out]
    exact ⟨rfl, _, rfl⟩
  · have e0 : ((k : Int) == torn) = false := by simp [ht]
    by_cases hkn : k < kn
    · obtain ⟨b, off, rfl, hcell⟩ : ∃ b off, a = some ⟨b, off, none⟩ ∧ ∀ i, i < kn → W.cell? ⟨b, off + i, none⟩ = some (.bool (kf i)) := by
        rcases hk with h0 | h0
        · omega
        · exact h0
      have c7 := hcell k hkn
      have l7 := cell_lt c7
      have k1 : (k : Int) < kn := by omega
      cases hkk : kf k
      · have F := Lib.hid (show crV torn n kn kf k s old = old by simp [crV, ht, hkk])
        rw [hkk] at c7
        clear ht hs ho hcell hkk hkn
        go_enter Try.func41, Try.ntmps41
        go_wp2_with fail
        go_quiet (fail)
        go_wp2_with fail
        go_ret
        rw [F.out]
        exact ⟨rfl, _, rfl⟩
      · have F := Lib.hid (show crV torn n kn kf k s old = s by simp [crV, ht, hkk, hkn])
        rw [hkk] at c7
        clear ht hs ho hcell hkk hkn
        go_enter Try.func41, Try.ntmps41
        go_wp2_with fail
        go_ret
        rw [F.out]
        exact ⟨rfl, 0, rfl⟩
    · have F := Lib.hid (show crV torn n kn kf k s old = old by simp [crV, ht, hkn])
      have d1 : decide ((k : Int) < kn) = false := by simp; omega
      have d2 : decide (k < kn) = false := by simp; omega
      clear ht hs ho hk hkn
      go_enter Try.func41, Try.ntmps41
      go_wp2_with fail
      go_quiet (fail)
      go_wp2_with fail
      go_ret
      rw [F.out]
      exact ⟨rfl, _, rfl⟩

end Go.Proofs.Ytfnfapgmicmegaa
