/- Two disks side by side: the program's and the document's. -/
import Derived.Test.YteijagojagfecaaDiskRef4
import Derived.Test.YteijagojagfecaaActs
namespace Go.Proofs.Yteijagojagfecaa
open Go.RowKit Go.Maps Go.Joins
set_option linter.unusedVariables false

/-- The program's disk is m, the document's is m2; both are the call's own, and lie apart. -/
structure PlayAt (w0 w : World) (d r : Nat) (F G : List Nat) (m m2 : DM) (k : Nat) : Prop where
  disk : IsDisk w d F m
  ref : IsRef w r G m2
  ok : DOk m k
  ok2 : DOk m2 k
  below : Below w0.heap.size w0 w
  ownF : ∀ b ∈ F, w0.heap.size ≤ b
  ownG : ∀ b ∈ G, w0.heap.size ≤ b
  apart : ∀ b ∈ F, b ∉ G
theorem PlayAt.lt {w0 w : World} {d r : Nat} {F G : List Nat} {m m2 : DM} {k : Nat} (h : PlayAt w0 w d r F G m m2 k) : w0.heap.size ≤ w.heap.size := h.below.size
theorem PlayAt.goD {w0 w w' : World} {d r : Nat} {F G : List Nat} {m m2 m' : DM} {k k' : Nat} (h : PlayAt w0 w d r F G m m2 k) (g : Goes w w' d F m') (ok : DOk m' k') (hk : k ≤ k') : ∃ F', PlayAt w0 w' d r F' G m' m2 k' ∧ Touch F w w' ∧ ∀ b ∈ F', b ∈ F ∨ w.heap.size ≤ b := by
  obtain ⟨F', hD, hT, hF⟩ := g
  refine ⟨F', ⟨hD, h.ref.touch hT (fun b hb hb' => h.apart b hb' hb), ok, h.ok2.mono hk, h.below.trans (hT.below h.lt h.ownF), fun b hb => (hF b hb).elim (h.ownF b) (fun h' => Nat.le_trans h.lt h'), h.ownG, fun b hb hb' => ?_⟩, hT, hF⟩
  rcases hF b hb with h1 | h1
  · exact h.apart b h1 hb'
  · have := h.ref.lt b hb'; omega
theorem PlayAt.goR {w0 w w' : World} {d r : Nat} {F G : List Nat} {m m2 m' : DM} {k k' : Nat} (h : PlayAt w0 w d r F G m m2 k) (g : GoesR w w' r G m') (ok : DOk m' k') (hk : k ≤ k') : ∃ G', PlayAt w0 w' d r F G' m m' k' ∧ Touch G w w' ∧ ∀ b ∈ G', b ∈ G ∨ w.heap.size ≤ b := by
  obtain ⟨G', hD, hT, hG⟩ := g
  refine ⟨G', ⟨h.disk.touch hT (fun b hb hb' => h.apart b hb hb'), hD, h.ok.mono hk, ok, h.below.trans (hT.below h.lt h.ownG), h.ownF, fun b hb => (hG b hb).elim (h.ownG b) (fun h' => Nat.le_trans h.lt h'), fun b hb hb' => ?_⟩, hT, hG⟩
  rcases hG b hb' with h1 | h1
  · exact h.apart b hb h1
  · have := h.disk.lt b hb; omega
theorem PlayAt.stay {w0 w w' : World} {d r : Nat} {F G : List Nat} {m m2 : DM} {k : Nat} (h : PlayAt w0 w d r F G m m2 k) (b : Below w.heap.size w w') : PlayAt w0 w' d r F G m m2 k :=
  ⟨h.disk.touch (F := []) (Touch.of_below b) (fun _ _ h => by cases h), h.ref.touch (F := []) (Touch.of_below b) (fun _ _ h => by cases h), h.ok, h.ok2, below_step b h.below, h.ownF, h.ownG, h.apart⟩

theorem PlayAt.more {w0 w : World} {d r : Nat} {F G : List Nat} {m m2 : DM} {k k' : Nat} (h : PlayAt w0 w d r F G m m2 k) (hk : k ≤ k') : PlayAt w0 w d r F G m m2 k' :=
  ⟨h.disk, h.ref, h.ok.mono hk, h.ok2.mono hk, h.below, h.ownF, h.ownG, h.apart⟩

/-- Beside it, an act in a block of its own. -/
structure PlayB (w0 w : World) (d r : Nat) (F G : List Nat) (m m2 : DM) (k B : Nat) (x : ActD) : Prop where
  play : PlayAt w0 w d r F G m m2 k
  c1 : w.cell? ⟨B, 1, none⟩ = some (.int .u8 x.b2)
  c2 : w.cell? ⟨B, 2, none⟩ = some (.int .i64 x.at_)
  c3 : w.cell? ⟨B, 3, none⟩ = some (.int .i64 x.n)
  c4 : w.cell? ⟨B, 4, none⟩ = some (.string x.s)
  c5 : w.cell? ⟨B, 5, none⟩ = some (.slice x.ka x.kn x.kc)
  nF : B ∉ F
  nG : B ∉ G
  keep : KeepAt w x.ka x.kn x.kf
  keepB : ∀ b off, x.ka = some ⟨b, off, none⟩ → 0 < x.kn → b < w0.heap.size
theorem PlayB.by_touch {w0 w w' : World} {d r : Nat} {F G F' G' K : List Nat} {m m2 m' m2' : DM} {k k' B : Nat} {x : ActD} (h : PlayB w0 w d r F G m m2 k B x) (p : PlayAt w0 w' d r F' G' m' m2' k') (t : Touch K w w') (hB : B ∉ K) (hK : ∀ b ∈ K, w0.heap.size ≤ b)
    (hF : ∀ b ∈ F', b ∈ F ∨ w.heap.size ≤ b) (hG : ∀ b ∈ G', b ∈ G ∨ w.heap.size ≤ b) : PlayB w0 w' d r F' G' m' m2' k' B x := by
  have lt := cell_lt h.c1
  have e (o : Nat) : w'.cell? ⟨B, o, none⟩ = w.cell? ⟨B, o, none⟩ := t.cell (p := ⟨B, o, none⟩) lt hB
  refine ⟨p, (e 1).trans h.c1, (e 2).trans h.c2, (e 3).trans h.c3, (e 4).trans h.c4, (e 5).trans h.c5, fun hb => ?_, fun hb => ?_, ?_, h.keepB⟩
  · rcases hF B hb with h1 | h1
    · exact h.nF h1
    · omega
  · rcases hG B hb with h1 | h1
    · exact h.nG h1
    · omega
  · rcases h.keep with h0 | ⟨b, off, ha, hc⟩
    · exact .inl h0
    · refine .inr ⟨b, off, ha, fun i hi => ?_⟩
      refine (t.cell (p := ⟨b, off + i, none⟩) (cell_lt (hc i hi)) (fun hm => ?_)).trans (hc i hi)
      have := hK b hm
      have := h.keepB b off ha (by omega)
      omega
theorem PlayB.stay {w0 w w' : World} {d r : Nat} {F G : List Nat} {m m2 : DM} {k B : Nat} {x : ActD} (h : PlayB w0 w d r F G m m2 k B x) (b : Below w.heap.size w w') : PlayB w0 w' d r F G m m2 k B x :=
  h.by_touch (h.play.stay b) (Touch.of_below b : Touch [] w w') (by simp) (by simp) (fun b hb => .inl hb) (fun b hb => .inl hb)
theorem PlayB.drew {w0 w : World} {d r : Nat} {F G : List Nat} {m m2 : DM} {k B : Nat} {x : ActD} (h : PlayB w0 w d r F G m m2 k B x) : PlayB w0 w.drew d r F G m m2 k B x := h.stay (Below.refl _ _).drew
theorem PlayB.goD {w0 w w' : World} {d r : Nat} {F G : List Nat} {m m2 m' : DM} {k k' B : Nat} {x : ActD} (h : PlayB w0 w d r F G m m2 k B x) (g : Goes w w' d F m') (ok : DOk m' k') (hk : k ≤ k') : ∃ F', PlayB w0 w' d r F' G m' m2 k' B x := by
  obtain ⟨F', p, t, hF⟩ := h.play.goD g ok hk
  exact ⟨F', h.by_touch p t h.nF h.play.ownF hF (fun b hb => .inl hb)⟩
theorem PlayB.goR {w0 w w' : World} {d r : Nat} {F G : List Nat} {m m2 m' : DM} {k k' B : Nat} {x : ActD} (h : PlayB w0 w d r F G m m2 k B x) (g : GoesR w w' r G m') (ok : DOk m' k') (hk : k ≤ k') : ∃ G', PlayB w0 w' d r F G' m m' k' B x := by
  obtain ⟨G', p, t, hG⟩ := h.play.goR g ok hk
  exact ⟨G', h.by_touch p t h.nG h.play.ownG (fun b hb => .inl hb) hG⟩
theorem PlayAt.box {w0 w : World} {d r : Nat} {F G : List Nat} {m m2 : DM} {k : Nat} (h : PlayAt w0 w d r F G m m2 k) {x : ActD} {b0 : Value} (hk : KeepAt w x.ka x.kn x.kf) (hB : ∀ b off, x.ka = some ⟨b, off, none⟩ → 0 < x.kn → b < w0.heap.size) :
    PlayB w0 (w.alloc (.cells #[b0, .int .u8 x.b2, .int .i64 x.at_, .int .i64 x.n, .string x.s, .slice x.ka x.kn x.kc] 34)) d r F G m m2 k w.heap.size x := by
  have hs := h.stay ((Below.refl _ w).alloc (Nat.le_refl _) (.cells #[b0, .int .u8 x.b2, .int .i64 x.at_, .int .i64 x.n, .string x.s, .slice x.ka x.kn x.kc] 34))
  refine ⟨hs, ?_, ?_, ?_, ?_, ?_, fun hb => ?_, fun hb => ?_, keepAt_alloc hk _ 0, hB⟩
  · simp [World.cell?_alloc_new]
  · simp [World.cell?_alloc_new]
  · simp [World.cell?_alloc_new]
  · simp [World.cell?_alloc_new]
  · simp [World.cell?_alloc_new]
  · have := h.disk.lt _ hb; omega
  · have := h.ref.lt _ hb; omega

section
variable {w0 w : World} {d r : Nat} {F G : List Nat} {m m2 : DM} {k B : Nat} {x : ActD}
theorem play_fill (h : PlayB w0 w d r F G m m2 k B x) (h0 : 0 ≤ x.b2) (h1 : x.b2 ≤ 255) :
    Calls Try.prog 17 #[.int .u8 x.b2] w fun e w' => e = .returned (.string (fillB x.b2)) ∧ PlayB w0 w' d r F G m m2 k B x :=
  (fill_any x.b2 w h0 h1).mono fun e w' ⟨he, hb⟩ => ⟨he, h.stay hb⟩
theorem play_write (h : PlayB w0 w d r F G m m2 k B x) (hk : k ≤ 1000000) (i : Int) (s : ByteArray) (h1 : -9223372036854775808 ≤ i) (h2 : i ≤ 9223372036854775807) (hs : s.size ≤ 9223372036854775807) :
    Calls Try.prog 16 #[.pointer (some ⟨d, 0, none⟩), .int .i64 i, .string s] w fun e w' => e = .returned (.int .i64 (wrM m i s).1) ∧ ∃ F', PlayB w0 w' d r F' G (wrM m i s).2 m2 (k + 1) B x :=
  (is_write h.play.disk h.play.ok (by omega) i s h1 h2 hs).mono fun e w' ⟨he, g⟩ => ⟨he, h.goD g (h.play.ok.write i s) (by omega)⟩
theorem play_rwrite (h : PlayB w0 w d r F G m m2 k B x) (hk : k ≤ 1000000) (i : Int) (s : ByteArray) (h1 : -9223372036854775808 ≤ i) (h2 : i ≤ 9223372036854775807) (hs : s.size ≤ 9223372036854775807) :
    Calls Try.prog 31 #[.pointer (some ⟨r, 0, none⟩), .int .i64 i, .string s] w fun e w' => e = .returned (.int .i64 (wrM m2 i s).1) ∧ ∃ G', PlayB w0 w' d r F G' m (wrM m2 i s).2 (k + 1) B x := by
  obtain ⟨wv, hr, rfl⟩ := h.play.ref
  have o := h.play.ok2
  exact (rwrite_any hr o.size.1 o.few i s h1 h2 o.fuse hs (by have := o.waits; omega)).mono fun e w' ⟨he, g⟩ => ⟨he, h.goR g (o.write i s) (by omega)⟩
theorem play_flush (h : PlayB w0 w d r F G m m2 k B x) (hk : k ≤ 1000000) :
    Calls Try.prog 18 #[.pointer (some ⟨d, 0, none⟩)] w fun e w' => e = .returned (.int .i64 (flM m).1) ∧ ∃ F', PlayB w0 w' d r F' G (flM m).2 m2 k B x :=
  (is_flush h.play.disk h.play.ok (by omega)).mono fun e w' ⟨he, g⟩ => ⟨he, h.goD g h.play.ok.flush (Nat.le_refl _)⟩
theorem play_rflush (h : PlayB w0 w d r F G m m2 k B x) (hk : k ≤ 1000000) :
    Calls Try.prog 32 #[.pointer (some ⟨r, 0, none⟩)] w fun e w' => e = .returned (.int .i64 (flM m2).1) ∧ ∃ G', PlayB w0 w' d r F G' m (flM m2).2 k B x := by
  obtain ⟨wv, hr, rfl⟩ := h.play.ref
  have o := h.play.ok2
  exact (rflush_any hr o.wait o.size o.few (by have := o.waits; omega) o.fuse).mono fun e w' ⟨he, g⟩ => ⟨he, h.goR g o.flush (Nat.le_refl _)⟩
theorem play_fuse (h : PlayB w0 w d r F G m m2 k B x) (n : Int) (h1 : -9223372036854775808 ≤ n) (h2 : n ≤ 9223372036854775807) :
    Calls Try.prog 19 #[.pointer (some ⟨d, 0, none⟩), .int .i64 n] w fun e w' => e = .returned (.tuple #[]) ∧ ∃ F', PlayB w0 w' d r F' G (fuM m n) m2 k B x :=
  (is_fuse h.play.disk n h1 h2).mono fun e w' ⟨he, g⟩ => ⟨he, h.goD g (h.play.ok.setFuse n h2) (Nat.le_refl _)⟩
theorem play_arm (h : PlayB w0 w d r F G m m2 k B x) (n : Int) (h1 : -9223372036854775808 ≤ n) (h2 : n ≤ 9223372036854775807) :
    Calls Try.prog 33 #[.pointer (some ⟨r, 0, none⟩), .int .i64 n] w fun e w' => e = .returned (.tuple #[]) ∧ ∃ G', PlayB w0 w' d r F G' m (fuM m2 n) k B x := by
  obtain ⟨wv, hr, rfl⟩ := h.play.ref
  exact (rarm_any hr n h1 h2).mono fun e w' ⟨he, hR, hT⟩ => ⟨he, h.goR (GoesR.of_at hR hT (by simp [refB])) (h.play.ok2.setFuse n h2) (Nat.le_refl _)⟩
theorem play_crash (h : PlayB w0 w d r F G m m2 k B x) (hk : k ≤ 1000000) (torn b : Int) (b1 : -9223372036854775808 ≤ b) (b2 : b ≤ 9223372036854775807) :
    Calls Try.prog 20 #[.pointer (some ⟨d, 0, none⟩), .slice x.ka x.kn x.kc, .int .i64 torn, .int .i64 b] w fun e w' => e = .returned (.tuple #[]) ∧ ∃ F', PlayB w0 w' d r F' G (crM m x.kn x.kf torn b) m2 k B x :=
  (is_crash h.play.disk h.play.ok (by omega) torn b h.keep (fun b off ha h0 hm => by have := h.keepB b off ha h0; have := h.play.ownF b hm; omega) b1 b2).mono fun e w' ⟨he, g⟩ => ⟨he, h.goD g ((h.play.ok.crash _ _ _ _).mono (Nat.zero_le _)) (Nat.le_refl _)⟩
theorem play_rcrash (h : PlayB w0 w d r F G m m2 k B x) (hk : k ≤ 1000000) (torn b : Int) (b1 : -9223372036854775808 ≤ b) (b2 : b ≤ 9223372036854775807) :
    Calls Try.prog 34 #[.pointer (some ⟨r, 0, none⟩), .slice x.ka x.kn x.kc, .int .i64 torn, .int .i64 b] w fun e w' => e = .returned (.tuple #[]) ∧ ∃ G', PlayB w0 w' d r F G' m (crM m2 x.kn x.kf torn b) k B x := by
  have hr0 := h.play.ref
  have hG := h.play.ownG
  obtain ⟨wv, hr, rfl⟩ := hr0
  have o := h.play.ok2
  exact (rcrash_any hr o.wait o.size o.few (by have := o.waits; omega) torn b h.keep (fun b off ha h0 hm => by have := h.keepB b off ha h0; have := hG b hm; omega) b1 b2).mono fun e w' ⟨he, g⟩ => ⟨he, h.goR g ((o.crash _ _ _ _).mono (Nat.zero_le _)) (Nat.le_refl _)⟩
theorem play_read (h : PlayB w0 w d r F G m m2 k B x) (i : Int) (h1 : -9223372036854775808 ≤ i) (h2 : i ≤ 9223372036854775807) :
    Calls Try.prog 21 #[.pointer (some ⟨d, 0, none⟩), .int .i64 i] w fun e w' => e = .returned (.tuple #[.string (rdM m i).1, .int .i64 (rdM m i).2]) ∧ w = w' :=
  is_read h.play.disk i h1 h2
theorem play_rread (h : PlayB w0 w d r F G m m2 k B x) (hk : k ≤ 1000000) (i : Int) (h1 : -9223372036854775808 ≤ i) (h2 : i ≤ 9223372036854775807) :
    Calls Try.prog 35 #[.pointer (some ⟨r, 0, none⟩), .int .i64 i] w fun e w' => e = .returned (.tuple #[.string (rdM m2 i).1, .int .i64 (rdM m2 i).2]) ∧ w = w' := by
  obtain ⟨wv, hr, rfl⟩ := h.play.ref
  have o := h.play.ok2
  exact rread_any hr o.size.1 o.few (by have := o.waits; omega) i h1 h2
end

end Go.Proofs.Yteijagojagfecaa
