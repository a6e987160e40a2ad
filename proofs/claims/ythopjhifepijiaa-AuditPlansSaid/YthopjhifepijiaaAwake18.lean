/- The document's example of layer 18. -/
import Derived.Test.YthopjhifepijiaaEmpty4
namespace Go.Proofs.Ythopjhifepijiaa
open Go.RowKit
set_option linter.unusedVariables false
set_option maxRecDepth 100000 in
set_option maxHeartbeats 2000000 in
theorem awake18_any (w : World) : Calls Try.prog 28 #[] w fun e w' => e = .returned (.bool true) ∧ Below w.heap.size w w' := by
  go_enter Try.func28, Try.ntmps28
  go_wp2_with fail
  refine (drawE _).mono ?_
  rintro e wd ⟨fb, c, rfl, h0, h1, h2, hb⟩
  have HD := Lib.hid hb
  have hfl := cell_lt h0
  have HF := Lib.hid (show FaceAt wd fb from ⟨h0, h1, hfl⟩)
  clear h0 h1 h2 hfl hb
  go_wp2_with fail
  first | refine wp_name (fun W hW => ?_) | refine calls_name (fun W hW => ?_)
  have HW : Hid (Below wd.heap.size wd W) := Lib.hid (by rw [← hW]; repeat (first | exact Below.refl _ _ | refine below_alloc ?_))
  have HWs : Hid (W.heap.size = wd.heap.size + 1) := Lib.hid (by rw [← hW]; simp)
  have HBW : Hid (W.heap.size ≤ W.heap.size) := Lib.hid (by have := HWs.out; omega)
  have HC := fun (W1 : World) (hb : Below (W.heap.size) W W1) => Lib.hid (show W1.cell? ⟨wd.heap.size, 0, none⟩ = some (.int .i64 0) ∧ W1.cell? ⟨wd.heap.size, 1, none⟩ = some (.int .i64 0) ∧ W1.cell? ⟨wd.heap.size, 2, none⟩ = some (.int .i64 0) ∧ W1.cell? ⟨wd.heap.size, 3, none⟩ = some (.slice none 0 0) ∧ W1.cell? ⟨wd.heap.size, 4, none⟩ = some (.slice none 0 0) ∧ W1.cell? ⟨wd.heap.size, 5, none⟩ = some (.slice (some ⟨fb, 0, none⟩) 1 c) from by exact ⟨(hb.cell (p := ⟨wd.heap.size, 0, none⟩) (by show wd.heap.size < W.heap.size; have := HWs.out; omega)).trans (by rw [← hW]; clear hW; go_simp), (hb.cell (p := ⟨wd.heap.size, 1, none⟩) (by show wd.heap.size < W.heap.size; have := HWs.out; omega)).trans (by rw [← hW]; clear hW; go_simp), (hb.cell (p := ⟨wd.heap.size, 2, none⟩) (by show wd.heap.size < W.heap.size; have := HWs.out; omega)).trans (by rw [← hW]; clear hW; go_simp), (hb.cell (p := ⟨wd.heap.size, 3, none⟩) (by show wd.heap.size < W.heap.size; have := HWs.out; omega)).trans (by rw [← hW]; clear hW; go_simp), (hb.cell (p := ⟨wd.heap.size, 4, none⟩) (by show wd.heap.size < W.heap.size; have := HWs.out; omega)).trans (by rw [← hW]; clear hW; go_simp), (hb.cell (p := ⟨wd.heap.size, 5, none⟩) (by show wd.heap.size < W.heap.size; have := HWs.out; omega)).trans (by rw [← hW]; clear hW; go_simp)⟩)
  have HB := Lib.hid (Below.refl (W.heap.size) W)
  obtain ⟨q1_0, q1_1, q1_2, q1_3, q1_4, q1_5⟩ := (HC _ HB.out).out
  have r1_0 := Nat.lt_of_lt_of_le (show wd.heap.size < W.heap.size by have := HWs.out; omega) HB.out.size
  have HFZ := fun (W1 : World) (hb : Below W.heap.size W W1) => Lib.hid (show ∀ j, W1.frozen? ⟨wd.heap.size, j, none⟩ = false from fun j => (hb.frozen (p := ⟨wd.heap.size, j, none⟩) (show wd.heap.size < W.heap.size by have := HWs.out; omega)).trans (by rw [← hW]; clear hW; go_simp))
  clear hW
  have HFL : Hid (fb < wd.heap.size) := Lib.hid HF.out.2.2
  have HF := Lib.hid (HF.out.below HW.out)
  refine (checkYes _ _ _ HF.out).mono ?_
  rintro e wc ⟨rfl, hb2⟩
  have HB := Lib.hid (below_next (below_next HB.out (Nat.le_trans HBW.out HB.out.size) (by repeat (first | exact Below.refl _ _ | refine below_alloc ?_))) (by first | exact (Nat.le_trans HBW.out HB.out.size) | (simp; done) | (have h1 := HBW.out; have h2 := HB.out.size; simp; omega)) hb2)
  clear q1_0 q1_1 q1_2 q1_3 q1_4 q1_5 r1_0
  obtain ⟨q2_0, q2_1, q2_2, q2_3, q2_4, q2_5⟩ := (HC _ HB.out).out
  have HF := Lib.hid (HF.out.below hb2)
  clear hb2
  have r2_0 := Nat.lt_of_lt_of_le (show wd.heap.size < W.heap.size by have := HWs.out; omega) HB.out.size
  have fz := (HFZ _ HB.out).out
  go_wp2_with fail
  have hbs : Below wd.heap.size wc (wc.setCell ⟨wd.heap.size, 2, none⟩ (.int .i64 (-1))) := (Below.refl _ _).setCell (by simp) _
  have HF := Lib.hid (HF.out.belowB hbs HFL.out)
  have HS := Lib.hid (below_step ((HW.out.trans (HB.out.mono HW.out.size)).trans hbs) HD.out)
  clear hbs
  refine (checkNo _ _ _ HF.out).mono ?_
  rintro e w9 ⟨rfl, hb9⟩
  have HE := Lib.hid (below_step hb9 HS.out)
  clear hb9
  go_wp2_with fail
  go_ret
  exact ⟨rfl, HE.out⟩
end Go.Proofs.Ythopjhifepijiaa
