/- The reference's disk: the same plain data; its sectors lie in one text. -/
import Derived.Test.YteijagojagfecaaDiskIs
import Derived.Test.YteijagojagfecaaDiskNilWalk
namespace Go.Proofs.Yteijagojagfecaa
open Go.RowKit Go.Maps Go.Joins
set_option linter.unusedVariables false

/-- The cells of the reference's disk. -/
def refF (wv : Value) (m : DM) : Nat → Value
  | 0 => .string (imgM m.sure)
  | 1 => wv
  | 2 => .int .i64 m.fuse
  | 3 => .bool m.down
  | _ => undef
structure RefAt (w : World) (d : Nat) (wv : Value) (m : DM) : Prop where
  cells : w.rowIs d 62 4 (refF wv m)
  wait : w.ownsRow 0 109 2 wv m.wait.length (waitCells m.wait)
  ne : ∀ g, wv.ownBlock = some g → g ≠ d
def refB (d : Nat) (wv : Value) : List Nat := d :: wv.ownBlock.toList
def IsRef (w : World) (d : Nat) (F : List Nat) (m : DM) : Prop := ∃ wv, RefAt w d wv m ∧ F = refB d wv
theorem RefAt.touch {w w' : World} {d : Nat} {wv : Value} {m : DM} {F : List Nat} (h : RefAt w d wv m) (t : Touch F w w') (hF : ∀ b ∈ refB d wv, b ∉ F) : RefAt w' d wv m :=
  ⟨rowIs_touch h.cells t (hF d (by simp [refB])), ownsRow_touch h.wait t (fun g hg => hF g (by simp [refB, hg])), h.ne⟩
theorem IsRef.touch {w w' : World} {d : Nat} {m : DM} {F G : List Nat} (h : IsRef w d G m) (t : Touch F w w') (hF : ∀ b ∈ G, b ∉ F) : IsRef w' d G m := by
  obtain ⟨wv, h, rfl⟩ := h
  exact ⟨wv, h.touch t hF, rfl⟩
theorem RefAt.lt {w : World} {d : Nat} {wv : Value} {m : DM} (h : RefAt w d wv m) : ∀ b ∈ refB d wv, b < w.heap.size := by
  intro b hb
  simp only [refB, List.mem_cons, Option.mem_toList] at hb
  rcases hb with rfl | hb
  · exact World.rowIs.lt h.cells
  · exact (h.wait.lt b hb).2
theorem IsRef.lt {w : World} {d : Nat} {m : DM} {F : List Nat} (h : IsRef w d F m) : ∀ b ∈ F, b < w.heap.size := by
  obtain ⟨wv, h, rfl⟩ := h
  exact h.lt
theorem RefAt.cell {w : World} {d : Nat} {wv : Value} {m : DM} (h : RefAt w d wv m) :
    w.cell? ⟨d, 0, none⟩ = some (.string (imgM m.sure)) ∧ w.cell? ⟨d, 1, none⟩ = some wv ∧ w.cell? ⟨d, 2, none⟩ = some (.int .i64 m.fuse) ∧ w.cell? ⟨d, 3, none⟩ = some (.bool m.down) :=
  ⟨World.rowIs.cell h.cells (i := 0) (by decide), World.rowIs.cell h.cells (i := 1) (by decide), World.rowIs.cell h.cells (i := 2) (by decide), World.rowIs.cell h.cells (i := 3) (by decide)⟩
theorem RefAt.frozen {w : World} {d : Nat} {wv : Value} {m : DM} (h : RefAt w d wv m) (i : Nat) : w.frozen? ⟨d, i, none⟩ = false := World.rowIs.frozen h.cells i
theorem RefAt.set {w : World} {d : Nat} {wv : Value} {m : DM} (h : RefAt w d wv m) (j : Nat) (v : Value) (m' : DM) (hw : m'.wait = m.wait) (hv : ∀ i, i < 4 → (if i = j then v else refF wv m i) = refF wv m' i) : RefAt (w.setCell ⟨d, j, none⟩ v) d wv m' := by
  have t : Touch [d] w (w.setCell ⟨d, j, none⟩ v) := (Touch.refl _ _).setCell (.inl (by simp)) _
  exact ⟨World.rowIs.congr (World.rowIs.set h.cells j v) hv, by rw [hw]; exact ownsRow_touch h.wait t (fun g hg => by simp; exact h.ne g hg), h.ne⟩
theorem RefAt.setFuse {w : World} {d : Nat} {wv : Value} {m : DM} (h : RefAt w d wv m) (n : Int) : RefAt (w.setCell ⟨d, 2, none⟩ (.int .i64 n)) d wv { m with fuse := n } :=
  h.set 2 _ _ rfl (fun i hi => by rcases i with _ | _ | _ | _ | i <;> first | rfl | omega)
theorem RefAt.setDown {w : World} {d : Nat} {wv : Value} {m : DM} (h : RefAt w d wv m) (b : Bool) : RefAt (w.setCell ⟨d, 3, none⟩ (.bool b)) d wv { m with down := b } :=
  h.set 3 _ _ rfl (fun i hi => by rcases i with _ | _ | _ | _ | i <;> first | rfl | omega)
theorem RefAt.setSure {w : World} {d : Nat} {wv : Value} {m : DM} (h : RefAt w d wv m) (su : List ByteArray) : RefAt (w.setCell ⟨d, 0, none⟩ (.string (imgM su))) d wv { m with sure := su } :=
  h.set 0 _ _ rfl (fun i hi => by rcases i with _ | _ | _ | _ | i <;> first | rfl | omega)

/-! The image. -/
theorem imgM_size (su : List ByteArray) (h : ∀ t ∈ su, t.size = 64) : (imgM su).size = su.length * 64 := by
  unfold imgM
  rw [S_size, flatten_length su h]

set_option maxRecDepth 100000 in
set_option maxHeartbeats 1000000 in
theorem rburn_any {w : World} {d : Nat} {wv : Value} {m : DM} (h : RefAt w d wv m) (hf : m.fuse ≤ 9223372036854775807) :
    Calls Try.prog 63 #[.pointer (some ⟨d, 0, none⟩)] w fun e w' => e = .returned (.bool (burnM m).1) ∧ RefAt w' d wv (burnM m).2 ∧ Touch [d] w w' := by
  obtain ⟨_, _, c3, c4⟩ := h.cell
  have f3 := h.frozen 2
  have f4 := h.frozen 3
  by_cases h0 : m.fuse = 0
  · have hm : burnM m = (false, { m with down := true, fuse := -1 }) := by simp [burnM, h0]
    have R := (h.setDown true).setFuse (-1)
    have F := Lib.hid hm
    have e0 : (m.fuse == 0) = true := by simp [h0]
    clear hm h0
    generalize m.fuse = n at *
    go_enter Try.func63, Try.ntmps63
    go_wp2_with fail
    go_ret
    rw [F.out]
    exact ⟨rfl, R, ((Touch.refl _ _).setCell (.inl (by simp)) _).setCell (.inl (by simp)) _⟩
  · by_cases h1 : 0 < m.fuse
    · have hm : burnM m = (true, { m with fuse := m.fuse - 1 }) := by simp [burnM, h0, h1]
      have R := h.setFuse (m.fuse - 1)
      have F := Lib.hid hm
      have e0 : (m.fuse == 0) = false := by simp [h0]
      clear hm h0
      generalize m.fuse = n at *
      go_enter Try.func63, Try.ntmps63
      go_wp2_with fail
      go_ret
      rw [F.out]
      exact ⟨rfl, R, (Touch.refl _ _).setCell (.inl (by simp)) _⟩
    · have hm : burnM m = (true, m) := by simp [burnM, h0, h1]
      have F := Lib.hid hm
      have e0 : (m.fuse == 0) = false := by simp [h0]
      clear hm h0
      generalize hn : m.fuse = n at *
      clear hn
      go_enter Try.func63, Try.ntmps63
      go_wp2_with fail
      go_ret
      rw [F.out]
      exact ⟨rfl, h, Touch.refl _ _⟩

set_option maxRecDepth 100000 in
set_option maxHeartbeats 400000 in
theorem rlen_any {w : World} {d : Nat} {wv : Value} {m : DM} (h : RefAt w d wv m) (hz : ∀ t ∈ m.sure, t.size = 64) (hn : m.sure.length ≤ 65536) :
    Calls Try.prog 38 #[.pointer (some ⟨d, 0, none⟩)] w fun e w' => e = .returned (.int .i64 m.sure.length) ∧ w = w' := by
  obtain ⟨c0, _, _, _⟩ := h.cell
  have hs := imgM_size m.sure hz
  generalize imgM m.sure = s at *
  have e1 : Int.tdiv (s.size : Int) 64 = m.sure.length := by rw [Int.tdiv_eq_ediv_of_nonneg (by omega)]; omega
  clear h
  go_enter Try.func38, Try.ntmps38
  go_wp2_with fail
  go_ret
  exact ⟨by first | rfl | (rw [e1]) | (simp only [e1]), rfl⟩

set_option maxRecDepth 100000 in
set_option maxHeartbeats 400000 in
theorem rarm_any {w : World} {d : Nat} {wv : Value} {m : DM} (h : RefAt w d wv m) (n : Int) (h1 : -9223372036854775808 ≤ n) (h2 : n ≤ 9223372036854775807) :
    Calls Try.prog 33 #[.pointer (some ⟨d, 0, none⟩), .int .i64 n] w fun e w' => e = .returned (.tuple #[]) ∧ RefAt w' d wv (fuM m n) ∧ Touch [d] w w' := by
  obtain ⟨_, _, c2, _⟩ := h.cell
  have f3 := h.frozen 2
  by_cases hn : n < 0
  · have R := (h.setFuse n).setFuse (-1)
    have hm : fuM m n = { m with fuse := -1 } := by unfold fuM; rw [show max n (-1) = -1 by omega]
    have F := Lib.hid hm
    clear hm
    go_enter Try.func33, Try.ntmps33
    go_wp2_with fail
    go_end0
    rw [F.out]
    exact ⟨rfl, R, ((Touch.refl _ _).setCell (.inl (by simp)) _).setCell (.inl (by simp)) _⟩
  · have R := h.setFuse n
    have hm : fuM m n = { m with fuse := n } := by unfold fuM; rw [show max n (-1) = n by omega]
    have F := Lib.hid hm
    clear hm
    go_enter Try.func33, Try.ntmps33
    go_wp2_with fail
    go_end0
    rw [F.out]
    exact ⟨rfl, R, (Touch.refl _ _).setCell (.inl (by simp)) _⟩

set_option maxRecDepth 100000 in
set_option maxHeartbeats 400000 in
theorem rput_any (sure s : ByteArray) (pos : Nat) (w : World) (h : pos + s.size ≤ sure.size) (hb : sure.size ≤ 140737488351232) :
    Calls Try.prog 64 #[.string sure, .int .i64 pos, .string s] w fun e w' => e = .returned (.string (sure.extract 0 pos ++ s ++ sure.extract (pos + s.size) sure.size)) ∧ ∃ q, w' = w.drewN q := by
  have p1 : pos ≤ sure.size := by omega
  have p2 : s.size ≤ sure.size := by omega
  go_enter Try.func64, Try.ntmps64
  go_wp2_with fail
  go_quiet (fail)
  go_wp2_with fail
  go_ret
  exact ⟨rfl, _, rfl⟩

end Go.Proofs.Yteijagojagfecaa
