/- The table of an empty plan is checked: numbers. -/
import Derived.Test.YthopjhifepijiaaEmpty3
namespace Go.Proofs.Ythopjhifepijiaa
open Go.RowKit
open Go.Maps (Keyed)
set_option linter.unusedVariables false
set_option maxRecDepth 100000 in
set_option maxHeartbeats 2000000 in
theorem numbersE (lf : Int) (hl : lf = 0 ∨ lf = -1) (fb c : Nat) (w : World) (h0 : w.cell? ⟨fb, 0, none⟩ = some (.int .i64 0)) (h1 : w.cell? ⟨fb, 1, none⟩ = some (.int .i64 0)) (hb : fb < w.heap.size) :
    Calls Try.prog 65 #[.agg #[.int .i64 0, .int .i64 0, .int .i64 lf, .slice none 0 0, .slice none 0 0, .slice (some ⟨fb, 0, none⟩) 1 c]] w fun e w' => e = .returned (.bool (decide (lf = 0))) ∧ Below w.heap.size w w' := by
  have H0 := Lib.hid h0
  have H1 := Lib.hid h1
  have HLF := Lib.hid hl
  clear h0 h1 hl
  go_enter Try.func65, Try.ntmps65
  go_wp2_with fail
  first | refine wp_name (fun W hW => ?_) | refine calls_name (fun W hW => ?_)
  have HW : Hid (Below w.heap.size w W) := Lib.hid (by rw [← hW]; repeat (first | exact Below.refl _ _ | refine below_alloc ?_))
  have HWs : Hid (W.heap.size = w.heap.size + 1) := Lib.hid (by rw [← hW]; simp)
  have HBW : Hid (W.heap.size ≤ W.heap.size) := Lib.hid (by have := HWs.out; omega)
  have HC := fun (W1 : World) (hb : Below (W.heap.size) W W1) => Lib.hid (show W1.cell? ⟨w.heap.size, 0, none⟩ = some (.int .i64 0) ∧ W1.cell? ⟨w.heap.size, 1, none⟩ = some (.int .i64 0) ∧ W1.cell? ⟨w.heap.size, 2, none⟩ = some (.int .i64 lf) ∧ W1.cell? ⟨w.heap.size, 3, none⟩ = some (.slice none 0 0) ∧ W1.cell? ⟨w.heap.size, 4, none⟩ = some (.slice none 0 0) ∧ W1.cell? ⟨w.heap.size, 5, none⟩ = some (.slice (some ⟨fb, 0, none⟩) 1 c) from by exact ⟨(hb.cell (p := ⟨w.heap.size, 0, none⟩) (by show w.heap.size < W.heap.size; have := HWs.out; omega)).trans (by rw [← hW]; clear hW; go_simp), (hb.cell (p := ⟨w.heap.size, 1, none⟩) (by show w.heap.size < W.heap.size; have := HWs.out; omega)).trans (by rw [← hW]; clear hW; go_simp), (hb.cell (p := ⟨w.heap.size, 2, none⟩) (by show w.heap.size < W.heap.size; have := HWs.out; omega)).trans (by rw [← hW]; clear hW; go_simp), (hb.cell (p := ⟨w.heap.size, 3, none⟩) (by show w.heap.size < W.heap.size; have := HWs.out; omega)).trans (by rw [← hW]; clear hW; go_simp), (hb.cell (p := ⟨w.heap.size, 4, none⟩) (by show w.heap.size < W.heap.size; have := HWs.out; omega)).trans (by rw [← hW]; clear hW; go_simp), (hb.cell (p := ⟨w.heap.size, 5, none⟩) (by show w.heap.size < W.heap.size; have := HWs.out; omega)).trans (by rw [← hW]; clear hW; go_simp)⟩)
  have HB := Lib.hid (Below.refl (W.heap.size) W)
  clear hW
  obtain ⟨q1_0, q1_1, q1_2, q1_3, q1_4, q1_5⟩ := (HC _ HB.out).out
  have r1_0 := Nat.lt_of_lt_of_le (show w.heap.size < W.heap.size by have := HWs.out; omega) HB.out.size
  have r1_0_0 := Nat.lt_succ_of_lt r1_0
  have r1_0_1 := Nat.lt_succ_of_lt r1_0_0
  have r1_0_2 := Nat.lt_succ_of_lt r1_0_1
  have r1_0_3 := Nat.lt_succ_of_lt r1_0_2
  have f0 := (HW.out.cell (p := ⟨fb, 0, none⟩) hb).trans H0.out
  have f1 := (HW.out.cell (p := ⟨fb, 1, none⟩) hb).trans H1.out
  refine wp_loop_rounds 1 ?_
  rw [rounds_succ]
  go_wp2_with fail
  refine wp_loop_rounds 1 ?_
  rw [rounds_succ]
  go_wp2_with fail
  refine wp_loop_rounds 2 ?_
  rw [rounds_succ]
  go_wp2_with fail
  go_quiet (fail)
  go_wp2_with fail
  rw [rounds_succ]
  refine wp_name (fun W3 hW3 => ?_)
  have HB := Lib.hid (show Below W.heap.size W W3 by
    rw [← hW3]
    exact Below.drew (Below.alloc (Below.alloc (below_drewN (Below.alloc HB.out (Nat.le_refl _) _) _) (by simp) _) (by simp; omega) _))
  have g0 : W3.cell? ⟨W.heap.size + 1 + 1, 0, none⟩ = some (.int .i64 0) := by
    rw [← hW3]; clear hW3; go_simp; rw [Array.getElem?_append_left (by simp)]; rfl
  have HG0 := Lib.hid g0
  have HGL : Hid (W.heap.size + 1 + 1 < W3.heap.size) := Lib.hid (by rw [← hW3]; simp)
  clear hW3 g0
  clear q1_0 q1_1 q1_2 q1_3 q1_4 q1_5 r1_0 r1_0_0 r1_0_1 r1_0_2 r1_0_3
  obtain ⟨q2_0, q2_1, q2_2, q2_3, q2_4, q2_5⟩ := (HC _ HB.out).out
  have r2_0 := Nat.lt_of_lt_of_le (show w.heap.size < W.heap.size by have := HWs.out; omega) HB.out.size
  go_wp2_with fail
  refine (last0 _).mono ?_
  rintro e w3 ⟨rfl, hb3⟩
  have HB := Lib.hid (below_next (below_next HB.out (Nat.le_trans HBW.out HB.out.size) (by repeat (first | exact Below.refl _ _ | refine below_alloc ?_))) (by first | exact (Nat.le_trans HBW.out HB.out.size) | (simp; done) | (have h1 := HBW.out; have h2 := HB.out.size; simp; omega)) hb3)
  clear q2_0 q2_1 q2_2 q2_3 q2_4 q2_5 r2_0
  obtain ⟨q3_0, q3_1, q3_2, q3_3, q3_4, q3_5⟩ := (HC _ HB.out).out
  have HG0 := Lib.hid ((hb3.cell (p := ⟨W.heap.size + 1 + 1, 0, none⟩) HGL.out).trans HG0.out); have HGL := Lib.hid (Nat.lt_of_lt_of_le HGL.out hb3.size)
  clear hb3
  have r3_0 := Nat.lt_of_lt_of_le (show w.heap.size < W.heap.size by have := HWs.out; omega) HB.out.size
  go_wp2_with fail
  refine (last0 _).mono ?_
  rintro e w4 ⟨rfl, hb4⟩
  have HB := Lib.hid (below_next (below_next HB.out (Nat.le_trans HBW.out HB.out.size) (by repeat (first | exact Below.refl _ _ | refine below_alloc ?_))) (by first | exact (Nat.le_trans HBW.out HB.out.size) | (simp; done) | (have h1 := HBW.out; have h2 := HB.out.size; simp; omega)) hb4)
  clear q3_0 q3_1 q3_2 q3_3 q3_4 q3_5 r3_0
  obtain ⟨q4_0, q4_1, q4_2, q4_3, q4_4, q4_5⟩ := (HC _ HB.out).out
  have HG0 := Lib.hid ((hb4.cell (p := ⟨W.heap.size + 1 + 1, 0, none⟩) HGL.out).trans HG0.out); have HGL := Lib.hid (Nat.lt_of_lt_of_le HGL.out hb4.size)
  clear hb4
  have r4_0 := Nat.lt_of_lt_of_le (show w.heap.size < W.heap.size by have := HWs.out; omega) HB.out.size
  go_wp2_with fail
  rcases HLF.out with rfl | rfl
  · refine (last1 _ _ _ HG0.out).mono ?_
    rintro e w5 ⟨rfl, hb5⟩
    have HB := Lib.hid (below_next (below_next HB.out (Nat.le_trans HBW.out HB.out.size) (by repeat (first | exact Below.refl _ _ | refine below_alloc ?_))) (by first | exact (Nat.le_trans HBW.out HB.out.size) | (simp; done) | (have h1 := HBW.out; have h2 := HB.out.size; simp; omega)) hb5)
    clear q4_0 q4_1 q4_2 q4_3 q4_4 q4_5 r4_0
    obtain ⟨q5_0, q5_1, q5_2, q5_3, q5_4, q5_5⟩ := (HC _ HB.out).out
    clear hb5
    have r5_0 := Nat.lt_of_lt_of_le (show w.heap.size < W.heap.size by have := HWs.out; omega) HB.out.size
    go_wp2_with fail
    go_ret
    exact ⟨rfl, (HW.out.trans (HB.out.mono (by have := HWs.out; omega)))⟩
  · refine (lastN _ _ (by decide) _ ⟨_, _, _, rfl⟩).mono ?_
    rintro e w7 ⟨rfl, hb7⟩
    have HB := Lib.hid (below_next (below_next HB.out (Nat.le_trans HBW.out HB.out.size) (by repeat (first | exact Below.refl _ _ | refine below_alloc ?_))) (by first | exact (Nat.le_trans HBW.out HB.out.size) | (simp; done) | (have h1 := HBW.out; have h2 := HB.out.size; simp; omega)) hb7)
    clear q4_0 q4_1 q4_2 q4_3 q4_4 q4_5 r4_0
    obtain ⟨q7_0, q7_1, q7_2, q7_3, q7_4, q7_5⟩ := (HC _ HB.out).out
    clear hb7
    have r7_0 := Nat.lt_of_lt_of_le (show w.heap.size < W.heap.size by have := HWs.out; omega) HB.out.size
    go_wp2_with fail
    go_ret
    exact ⟨rfl, (HW.out.trans (HB.out.mono (by have := HWs.out; omega)))⟩
/-- The table of the empty plan. -/
def FaceAt (w : World) (fb : Nat) : Prop := w.cell? ⟨fb, 0, none⟩ = some (.int .i64 0) ∧ w.cell? ⟨fb, 1, none⟩ = some (.int .i64 0) ∧ fb < w.heap.size
theorem FaceAt.belowB {w w' : World} {fb B : Nat} (h : FaceAt w fb) (hb : Below B w w') (hl : fb < B) : FaceAt w' fb :=
  ⟨(hb.cell (p := ⟨fb, 0, none⟩) hl).trans h.1, (hb.cell (p := ⟨fb, 1, none⟩) hl).trans h.2.1, Nat.lt_of_lt_of_le h.2.2 hb.size⟩
theorem FaceAt.below {w w' : World} {fb : Nat} (h : FaceAt w fb) (hb : Below w.heap.size w w') : FaceAt w' fb :=
  ⟨(hb.cell (p := ⟨fb, 0, none⟩) h.2.2).trans h.1, (hb.cell (p := ⟨fb, 1, none⟩) h.2.2).trans h.2.1, Nat.lt_of_lt_of_le h.2.2 hb.size⟩
set_option maxRecDepth 100000 in
theorem oneE (f1 f2 : Value) (w : World) : Calls Try.prog 66 #[.agg #[.slice none 0 0, .slice none 0 0, .slice none 0 0], .int .i64 0, f1, f2] w fun e w' => e = .returned (.bool true) ∧ Below w.heap.size w w' := by
  go_enter Try.func66, Try.ntmps66
  go_wp2_with fail
  first | refine wp_name (fun W hW => ?_) | refine calls_name (fun W hW => ?_)
  have HW : Hid (Below w.heap.size w W) := Lib.hid (by rw [← hW]; repeat (first | exact Below.refl _ _ | refine below_alloc ?_))
  have HWs : Hid (W.heap.size = w.heap.size + 1 + 1) := Lib.hid (by rw [← hW]; simp)
  have HBW : Hid (W.heap.size ≤ W.heap.size) := Lib.hid (by have := HWs.out; omega)
  have HC := fun (W1 : World) (hb : Below (W.heap.size) W W1) => Lib.hid (show W1.cell? ⟨w.heap.size, 0, none⟩ = some (.slice none 0 0) ∧ W1.cell? ⟨w.heap.size, 1, none⟩ = some (.slice none 0 0) ∧ W1.cell? ⟨w.heap.size, 2, none⟩ = some (.slice none 0 0) ∧ W1.cell? ⟨w.heap.size + 1, 0, none⟩ = some (.slice none 0 0) from by exact ⟨(hb.cell (p := ⟨w.heap.size, 0, none⟩) (by show w.heap.size < W.heap.size; have := HWs.out; omega)).trans (by rw [← hW]; clear hW; go_simp), (hb.cell (p := ⟨w.heap.size, 1, none⟩) (by show w.heap.size < W.heap.size; have := HWs.out; omega)).trans (by rw [← hW]; clear hW; go_simp), (hb.cell (p := ⟨w.heap.size, 2, none⟩) (by show w.heap.size < W.heap.size; have := HWs.out; omega)).trans (by rw [← hW]; clear hW; go_simp), (hb.cell (p := ⟨w.heap.size + 1, 0, none⟩) (by show w.heap.size + 1 < W.heap.size; have := HWs.out; omega)).trans (by rw [← hW]; clear hW; go_simp)⟩)
  have HB := Lib.hid (Below.refl (W.heap.size) W)
  clear hW
  obtain ⟨q9_0, q9_1, q9_2, q9_3⟩ := (HC _ HB.out).out
  have r9_0 := Nat.lt_of_lt_of_le (show w.heap.size < W.heap.size by have := HWs.out; omega) HB.out.size
  have r9_1 := Nat.lt_of_lt_of_le (show w.heap.size + 1 < W.heap.size by have := HWs.out; omega) HB.out.size
  refine wp_loop_rounds 2 ?_
  rw [rounds_succ]
  go_wp2_with fail
  refine wp_loop_rounds 1 ?_
  rw [rounds_succ]
  go_wp2_with fail
  rw [rounds_succ]
  go_wp2_with fail
  refine wp_loop_rounds 1 ?_
  rw [rounds_succ]
  go_wp2_with fail
  go_ret
  exact ⟨rfl, (HW.out.trans (HB.out.mono (by have := HWs.out; omega)))⟩
set_option maxRecDepth 100000 in
set_option maxHeartbeats 2000000 in
theorem checkNo (fb c : Nat) (w : World) (hf : FaceAt w fb) :
    Calls Try.prog 30 #[.agg #[.int .i64 0, .int .i64 0, .int .i64 (-1), .slice none 0 0, .slice none 0 0, .slice (some ⟨fb, 0, none⟩) 1 c]] w fun e w' => e = .returned (.int .i64 19) ∧ Below w.heap.size w w' := by
  have HF := Lib.hid hf
  clear hf
  go_enter Try.func30, Try.ntmps30
  go_wp2_with fail
  first | refine wp_name (fun W hW => ?_) | refine calls_name (fun W hW => ?_)
  have HW : Hid (Below w.heap.size w W) := Lib.hid (by rw [← hW]; repeat (first | exact Below.refl _ _ | refine below_alloc ?_))
  have HWs : Hid (W.heap.size = w.heap.size + 1) := Lib.hid (by rw [← hW]; simp)
  have HBW : Hid (W.heap.size ≤ W.heap.size) := Lib.hid (by have := HWs.out; omega)
  have HC := fun (W1 : World) (hb : Below (W.heap.size) W W1) => Lib.hid (show W1.cell? ⟨w.heap.size, 0, none⟩ = some (.int .i64 0) ∧ W1.cell? ⟨w.heap.size, 1, none⟩ = some (.int .i64 0) ∧ W1.cell? ⟨w.heap.size, 2, none⟩ = some (.int .i64 (-1)) ∧ W1.cell? ⟨w.heap.size, 3, none⟩ = some (.slice none 0 0) ∧ W1.cell? ⟨w.heap.size, 4, none⟩ = some (.slice none 0 0) ∧ W1.cell? ⟨w.heap.size, 5, none⟩ = some (.slice (some ⟨fb, 0, none⟩) 1 c) from by exact ⟨(hb.cell (p := ⟨w.heap.size, 0, none⟩) (by show w.heap.size < W.heap.size; have := HWs.out; omega)).trans (by rw [← hW]; clear hW; go_simp), (hb.cell (p := ⟨w.heap.size, 1, none⟩) (by show w.heap.size < W.heap.size; have := HWs.out; omega)).trans (by rw [← hW]; clear hW; go_simp), (hb.cell (p := ⟨w.heap.size, 2, none⟩) (by show w.heap.size < W.heap.size; have := HWs.out; omega)).trans (by rw [← hW]; clear hW; go_simp), (hb.cell (p := ⟨w.heap.size, 3, none⟩) (by show w.heap.size < W.heap.size; have := HWs.out; omega)).trans (by rw [← hW]; clear hW; go_simp), (hb.cell (p := ⟨w.heap.size, 4, none⟩) (by show w.heap.size < W.heap.size; have := HWs.out; omega)).trans (by rw [← hW]; clear hW; go_simp), (hb.cell (p := ⟨w.heap.size, 5, none⟩) (by show w.heap.size < W.heap.size; have := HWs.out; omega)).trans (by rw [← hW]; clear hW; go_simp)⟩)
  have HB := Lib.hid (Below.refl (W.heap.size) W)
  clear hW
  obtain ⟨q11_0, q11_1, q11_2, q11_3, q11_4, q11_5⟩ := (HC _ HB.out).out
  have r11_0 := Nat.lt_of_lt_of_le (show w.heap.size < W.heap.size by have := HWs.out; omega) HB.out.size
  have HF := Lib.hid (HF.out.below HW.out)
  refine (tplanE _ _ _ _ ⟨_, _, _, rfl⟩ _).mono ?_
  rintro e wa ⟨rfl, hb12⟩
  have HB := Lib.hid (below_next (below_next HB.out (Nat.le_trans HBW.out HB.out.size) (by repeat (first | exact Below.refl _ _ | refine below_alloc ?_))) (by first | exact (Nat.le_trans HBW.out HB.out.size) | (simp; done) | (have h1 := HBW.out; have h2 := HB.out.size; simp; omega)) hb12)
  clear q11_0 q11_1 q11_2 q11_3 q11_4 q11_5 r11_0
  obtain ⟨q12_0, q12_1, q12_2, q12_3, q12_4, q12_5⟩ := (HC _ HB.out).out
  have HF := Lib.hid (HF.out.below hb12)
  clear hb12
  have r12_0 := Nat.lt_of_lt_of_le (show w.heap.size < W.heap.size by have := HWs.out; omega) HB.out.size
  go_wp2_with fail
  first | refine wp_name (fun W2 hW2 => ?_) | refine calls_name (fun W2 hW2 => ?_)
  have HW2 : Hid (Below wa.heap.size wa W2) := Lib.hid (by rw [← hW2]; repeat (first | exact Below.refl _ _ | refine below_alloc ?_))
  have HWs2 : Hid (W2.heap.size = wa.heap.size + 1) := Lib.hid (by rw [← hW2]; simp)
  have HBW2 : Hid (W2.heap.size ≤ W2.heap.size) := Lib.hid (by have := HWs2.out; omega)
  have HC2 := fun (W1 : World) (hb : Below (W2.heap.size) W2 W1) => Lib.hid (show W1.cell? ⟨w.heap.size, 0, none⟩ = some (.int .i64 0) ∧ W1.cell? ⟨w.heap.size, 1, none⟩ = some (.int .i64 0) ∧ W1.cell? ⟨w.heap.size, 2, none⟩ = some (.int .i64 (-1)) ∧ W1.cell? ⟨w.heap.size, 3, none⟩ = some (.slice none 0 0) ∧ W1.cell? ⟨w.heap.size, 4, none⟩ = some (.slice none 0 0) ∧ W1.cell? ⟨w.heap.size, 5, none⟩ = some (.slice (some ⟨fb, 0, none⟩) 1 c) ∧ W1.cell? ⟨wa.heap.size, 0, none⟩ = some (.slice none 0 0) ∧ W1.cell? ⟨wa.heap.size, 1, none⟩ = some (.slice none 0 0) from by have ho := (HC W1 (in_of HB.out HW2.out hb (Nat.le_trans HBW.out HB.out.size) (by have h1 := HBW.out; have h2 := HB.out.size; have h3 := HW2.out.size; have h4 := HWs2.out; omega))).out; exact ⟨ho.1, ho.2.1, ho.2.2.1, ho.2.2.2.1, ho.2.2.2.2.1, ho.2.2.2.2.2, (hb.cell (p := ⟨wa.heap.size, 0, none⟩) (by show wa.heap.size < W2.heap.size; have := HWs2.out; omega)).trans (by rw [← hW2]; clear hW2; go_simp), (hb.cell (p := ⟨wa.heap.size, 1, none⟩) (by show wa.heap.size < W2.heap.size; have := HWs2.out; omega)).trans (by rw [← hW2]; clear hW2; go_simp)⟩)
  have HB2 := Lib.hid (Below.refl (W2.heap.size) W2)
  clear hW2
  clear q12_0 q12_1 q12_2 q12_3 q12_4 q12_5 r12_0
  obtain ⟨q13_0, q13_1, q13_2, q13_3, q13_4, q13_5, q13_6, q13_7⟩ := (HC2 _ HB2.out).out
  have r13_0 := Nat.lt_of_lt_of_le (show w.heap.size < W2.heap.size by have h0 : w.heap.size < W.heap.size := (by have := HWs.out; omega); have h2 := HB.out.size; have h3 := HW2.out.size; omega) HB2.out.size
  have r13_1 := Nat.lt_of_lt_of_le (show wa.heap.size < W2.heap.size by have := HWs2.out; omega) HB2.out.size
  have HF := Lib.hid (HF.out.below HW2.out)
  refine (rightE _ _ _ _ _).mono ?_
  rintro e w14 ⟨rfl, hb14⟩
  have HB2 := Lib.hid (below_next (below_next HB2.out (Nat.le_trans HBW2.out HB2.out.size) (by repeat (first | exact Below.refl _ _ | refine below_alloc ?_))) (by first | exact (Nat.le_trans HBW2.out HB2.out.size) | (simp; done) | (have h1 := HBW2.out; have h2 := HB2.out.size; simp; omega)) hb14)
  clear q13_0 q13_1 q13_2 q13_3 q13_4 q13_5 q13_6 q13_7 r13_0 r13_1
  obtain ⟨q14_0, q14_1, q14_2, q14_3, q14_4, q14_5, q14_6, q14_7⟩ := (HC2 _ HB2.out).out
  have HF := Lib.hid (HF.out.below hb14)
  clear hb14
  have r14_0 := Nat.lt_of_lt_of_le (show w.heap.size < W2.heap.size by have h0 : w.heap.size < W.heap.size := (by have := HWs.out; omega); have h2 := HB.out.size; have h3 := HW2.out.size; omega) HB2.out.size
  have r14_1 := Nat.lt_of_lt_of_le (show wa.heap.size < W2.heap.size by have := HWs2.out; omega) HB2.out.size
  go_wp2_with fail
  have HN := fun (W1 : World) (h : FaceAt W1 fb) => Lib.hid (numbersE (-1) (.inr rfl) fb c W1 h.1 h.2.1 h.2.2)
  simp only [show decide ((-1 : Int) = 0) = false by decide] at HN
  refine ((HN _ HF.out).out).mono ?_
  rintro e w15 ⟨rfl, hb15⟩
  have HB2 := Lib.hid (below_next (below_next HB2.out (Nat.le_trans HBW2.out HB2.out.size) (by repeat (first | exact Below.refl _ _ | refine below_alloc ?_))) (by first | exact (Nat.le_trans HBW2.out HB2.out.size) | (simp; done) | (have h1 := HBW2.out; have h2 := HB2.out.size; simp; omega)) hb15)
  clear q14_0 q14_1 q14_2 q14_3 q14_4 q14_5 q14_6 q14_7 r14_0 r14_1
  obtain ⟨q15_0, q15_1, q15_2, q15_3, q15_4, q15_5, q15_6, q15_7⟩ := (HC2 _ HB2.out).out
  clear hb15
  have r15_0 := Nat.lt_of_lt_of_le (show w.heap.size < W2.heap.size by have h0 : w.heap.size < W.heap.size := (by have := HWs.out; omega); have h2 := HB.out.size; have h3 := HW2.out.size; omega) HB2.out.size
  have r15_1 := Nat.lt_of_lt_of_le (show wa.heap.size < W2.heap.size by have := HWs2.out; omega) HB2.out.size
  go_wp2_with fail
  have HB := Lib.hid (in_of HB.out HW2.out HB2.out (Nat.le_trans HBW.out HB.out.size) (by have h1 := HBW.out; have h2 := HB.out.size; have h3 := HW2.out.size; have h4 := HWs2.out; omega))
  clear q15_0 q15_1 q15_2 q15_3 q15_4 q15_5 q15_6 q15_7 r15_0 r15_1
  go_ret
  exact ⟨rfl, (HW.out.trans (HB.out.mono (by have := HWs.out; omega)))⟩
set_option maxRecDepth 100000 in
set_option maxHeartbeats 4000000 in
theorem checkYes (fb c : Nat) (w : World) (hf : FaceAt w fb) :
    Calls Try.prog 30 #[.agg #[.int .i64 0, .int .i64 0, .int .i64 0, .slice none 0 0, .slice none 0 0, .slice (some ⟨fb, 0, none⟩) 1 c]] w fun e w' => e = .returned (.int .i64 0) ∧ Below w.heap.size w w' := by
  have hmm := @run_makeMap Try.prog
  have HF := Lib.hid hf
  clear hf
  go_enter Try.func30, Try.ntmps30
  go_wp2_with fail
  first | refine wp_name (fun W hW => ?_) | refine calls_name (fun W hW => ?_)
  have HW : Hid (Below w.heap.size w W) := Lib.hid (by rw [← hW]; repeat (first | exact Below.refl _ _ | refine below_alloc ?_))
  have HWs : Hid (W.heap.size = w.heap.size + 1) := Lib.hid (by rw [← hW]; simp)
  have HBW : Hid (W.heap.size ≤ W.heap.size) := Lib.hid (by have := HWs.out; omega)
  have HC := fun (W1 : World) (hb : Below (W.heap.size) W W1) => Lib.hid (show W1.cell? ⟨w.heap.size, 0, none⟩ = some (.int .i64 0) ∧ W1.cell? ⟨w.heap.size, 1, none⟩ = some (.int .i64 0) ∧ W1.cell? ⟨w.heap.size, 2, none⟩ = some (.int .i64 0) ∧ W1.cell? ⟨w.heap.size, 3, none⟩ = some (.slice none 0 0) ∧ W1.cell? ⟨w.heap.size, 4, none⟩ = some (.slice none 0 0) ∧ W1.cell? ⟨w.heap.size, 5, none⟩ = some (.slice (some ⟨fb, 0, none⟩) 1 c) from by exact ⟨(hb.cell (p := ⟨w.heap.size, 0, none⟩) (by show w.heap.size < W.heap.size; have := HWs.out; omega)).trans (by rw [← hW]; clear hW; go_simp), (hb.cell (p := ⟨w.heap.size, 1, none⟩) (by show w.heap.size < W.heap.size; have := HWs.out; omega)).trans (by rw [← hW]; clear hW; go_simp), (hb.cell (p := ⟨w.heap.size, 2, none⟩) (by show w.heap.size < W.heap.size; have := HWs.out; omega)).trans (by rw [← hW]; clear hW; go_simp), (hb.cell (p := ⟨w.heap.size, 3, none⟩) (by show w.heap.size < W.heap.size; have := HWs.out; omega)).trans (by rw [← hW]; clear hW; go_simp), (hb.cell (p := ⟨w.heap.size, 4, none⟩) (by show w.heap.size < W.heap.size; have := HWs.out; omega)).trans (by rw [← hW]; clear hW; go_simp), (hb.cell (p := ⟨w.heap.size, 5, none⟩) (by show w.heap.size < W.heap.size; have := HWs.out; omega)).trans (by rw [← hW]; clear hW; go_simp)⟩)
  have HB := Lib.hid (Below.refl (W.heap.size) W)
  clear hW
  obtain ⟨q18_0, q18_1, q18_2, q18_3, q18_4, q18_5⟩ := (HC _ HB.out).out
  have r18_0 := Nat.lt_of_lt_of_le (show w.heap.size < W.heap.size by have := HWs.out; omega) HB.out.size
  have HF := Lib.hid (HF.out.below HW.out)
  refine (tplanE _ _ _ _ ⟨_, _, _, rfl⟩ _).mono ?_
  rintro e wa ⟨rfl, hb19⟩
  have HB := Lib.hid (below_next (below_next HB.out (Nat.le_trans HBW.out HB.out.size) (by repeat (first | exact Below.refl _ _ | refine below_alloc ?_))) (by first | exact (Nat.le_trans HBW.out HB.out.size) | (simp; done) | (have h1 := HBW.out; have h2 := HB.out.size; simp; omega)) hb19)
  clear q18_0 q18_1 q18_2 q18_3 q18_4 q18_5 r18_0
  obtain ⟨q19_0, q19_1, q19_2, q19_3, q19_4, q19_5⟩ := (HC _ HB.out).out
  have HF := Lib.hid (HF.out.below hb19)
  clear hb19
  have r19_0 := Nat.lt_of_lt_of_le (show w.heap.size < W.heap.size by have := HWs.out; omega) HB.out.size
  go_wp2_with fail
  first | refine wp_name (fun W2 hW2 => ?_) | refine calls_name (fun W2 hW2 => ?_)
  have HW2 : Hid (Below wa.heap.size wa W2) := Lib.hid (by rw [← hW2]; repeat (first | exact Below.refl _ _ | refine below_alloc ?_))
  have HWs2 : Hid (W2.heap.size = wa.heap.size + 1) := Lib.hid (by rw [← hW2]; simp)
  have HBW2 : Hid (W2.heap.size ≤ W2.heap.size) := Lib.hid (by have := HWs2.out; omega)
  have HC2 := fun (W1 : World) (hb : Below (W2.heap.size) W2 W1) => Lib.hid (show W1.cell? ⟨w.heap.size, 0, none⟩ = some (.int .i64 0) ∧ W1.cell? ⟨w.heap.size, 1, none⟩ = some (.int .i64 0) ∧ W1.cell? ⟨w.heap.size, 2, none⟩ = some (.int .i64 0) ∧ W1.cell? ⟨w.heap.size, 3, none⟩ = some (.slice none 0 0) ∧ W1.cell? ⟨w.heap.size, 4, none⟩ = some (.slice none 0 0) ∧ W1.cell? ⟨w.heap.size, 5, none⟩ = some (.slice (some ⟨fb, 0, none⟩) 1 c) ∧ W1.cell? ⟨wa.heap.size, 0, none⟩ = some (.slice none 0 0) ∧ W1.cell? ⟨wa.heap.size, 1, none⟩ = some (.slice none 0 0) from by have ho := (HC W1 (in_of HB.out HW2.out hb (Nat.le_trans HBW.out HB.out.size) (by have h1 := HBW.out; have h2 := HB.out.size; have h3 := HW2.out.size; have h4 := HWs2.out; omega))).out; exact ⟨ho.1, ho.2.1, ho.2.2.1, ho.2.2.2.1, ho.2.2.2.2.1, ho.2.2.2.2.2, (hb.cell (p := ⟨wa.heap.size, 0, none⟩) (by show wa.heap.size < W2.heap.size; have := HWs2.out; omega)).trans (by rw [← hW2]; clear hW2; go_simp), (hb.cell (p := ⟨wa.heap.size, 1, none⟩) (by show wa.heap.size < W2.heap.size; have := HWs2.out; omega)).trans (by rw [← hW2]; clear hW2; go_simp)⟩)
  have HB2 := Lib.hid (Below.refl (W2.heap.size) W2)
  clear hW2
  clear q19_0 q19_1 q19_2 q19_3 q19_4 q19_5 r19_0
  obtain ⟨q20_0, q20_1, q20_2, q20_3, q20_4, q20_5, q20_6, q20_7⟩ := (HC2 _ HB2.out).out
  have r20_0 := Nat.lt_of_lt_of_le (show w.heap.size < W2.heap.size by have h0 : w.heap.size < W.heap.size := (by have := HWs.out; omega); have h2 := HB.out.size; have h3 := HW2.out.size; omega) HB2.out.size
  have r20_1 := Nat.lt_of_lt_of_le (show wa.heap.size < W2.heap.size by have := HWs2.out; omega) HB2.out.size
  have HF := Lib.hid (HF.out.below HW2.out)
  refine (rightE _ _ _ _ _).mono ?_
  rintro e w21 ⟨rfl, hb21⟩
  have HB2 := Lib.hid (below_next (below_next HB2.out (Nat.le_trans HBW2.out HB2.out.size) (by repeat (first | exact Below.refl _ _ | refine below_alloc ?_))) (by first | exact (Nat.le_trans HBW2.out HB2.out.size) | (simp; done) | (have h1 := HBW2.out; have h2 := HB2.out.size; simp; omega)) hb21)
  clear q20_0 q20_1 q20_2 q20_3 q20_4 q20_5 q20_6 q20_7 r20_0 r20_1
  obtain ⟨q21_0, q21_1, q21_2, q21_3, q21_4, q21_5, q21_6, q21_7⟩ := (HC2 _ HB2.out).out
  have HF := Lib.hid (HF.out.below hb21)
  clear hb21
  have r21_0 := Nat.lt_of_lt_of_le (show w.heap.size < W2.heap.size by have h0 : w.heap.size < W.heap.size := (by have := HWs.out; omega); have h2 := HB.out.size; have h3 := HW2.out.size; omega) HB2.out.size
  have r21_1 := Nat.lt_of_lt_of_le (show wa.heap.size < W2.heap.size by have := HWs2.out; omega) HB2.out.size
  go_wp2_with fail
  have HN := fun (W1 : World) (h : FaceAt W1 fb) => Lib.hid (numbersE 0 (.inl rfl) fb c W1 h.1 h.2.1 h.2.2)
  simp only [show decide ((0 : Int) = 0) = true by decide] at HN
  refine ((HN _ HF.out).out).mono ?_
  rintro e w22 ⟨rfl, hb22⟩
  have HB2 := Lib.hid (below_next (below_next HB2.out (Nat.le_trans HBW2.out HB2.out.size) (by repeat (first | exact Below.refl _ _ | refine below_alloc ?_))) (by first | exact (Nat.le_trans HBW2.out HB2.out.size) | (simp; done) | (have h1 := HBW2.out; have h2 := HB2.out.size; simp; omega)) hb22)
  clear q21_0 q21_1 q21_2 q21_3 q21_4 q21_5 q21_6 q21_7 r21_0 r21_1
  obtain ⟨q22_0, q22_1, q22_2, q22_3, q22_4, q22_5, q22_6, q22_7⟩ := (HC2 _ HB2.out).out
  have HF := Lib.hid (HF.out.below hb22)
  clear hb22
  have r22_0 := Nat.lt_of_lt_of_le (show w.heap.size < W2.heap.size by have h0 : w.heap.size < W.heap.size := (by have := HWs.out; omega); have h2 := HB.out.size; have h3 := HW2.out.size; omega) HB2.out.size
  have r22_1 := Nat.lt_of_lt_of_le (show wa.heap.size < W2.heap.size by have := HWs2.out; omega) HB2.out.size
  go_wp2_with fail
  refine (linksE _ _ _ _ _).mono ?_
  rintro e wl ⟨rfl, hb23⟩
  have HB2 := Lib.hid (below_next (below_next HB2.out (Nat.le_trans HBW2.out HB2.out.size) (by repeat (first | exact Below.refl _ _ | refine below_alloc ?_))) (by first | exact (Nat.le_trans HBW2.out HB2.out.size) | (simp; done) | (have h1 := HBW2.out; have h2 := HB2.out.size; simp; omega)) hb23)
  clear q22_0 q22_1 q22_2 q22_3 q22_4 q22_5 q22_6 q22_7 r22_0 r22_1
  obtain ⟨q23_0, q23_1, q23_2, q23_3, q23_4, q23_5, q23_6, q23_7⟩ := (HC2 _ HB2.out).out
  have HF := Lib.hid (HF.out.below hb23)
  clear hb23
  have r23_0 := Nat.lt_of_lt_of_le (show w.heap.size < W2.heap.size by have h0 : w.heap.size < W.heap.size := (by have := HWs.out; omega); have h2 := HB.out.size; have h3 := HW2.out.size; omega) HB2.out.size
  have r23_1 := Nat.lt_of_lt_of_le (show wa.heap.size < W2.heap.size by have := HWs2.out; omega) HB2.out.size
  have r23_0_0 := Nat.lt_succ_of_lt r23_0
  have r23_0_1 := Nat.lt_succ_of_lt r23_0_0
  have r23_0_2 := Nat.lt_succ_of_lt r23_0_1
  have r23_1_0 := Nat.lt_succ_of_lt r23_1
  have r23_1_1 := Nat.lt_succ_of_lt r23_1_0
  have r23_1_2 := Nat.lt_succ_of_lt r23_1_1
  go_wp2_with fail
  refine wp_loop_rounds 1 ?_
  rw [rounds_succ]
  go_wp2_with fail
  refine wp_loop_rounds 1 ?_
  rw [rounds_succ]
  go_wp2_with fail
  have HFL : Hid (fb < wl.heap.size) := Lib.hid HF.out.2.2
  first | refine wp_name (fun W3 hW3 => ?_) | refine calls_name (fun W3 hW3 => ?_)
  have HW3 : Hid (Below wl.heap.size wl W3) := Lib.hid (by rw [← hW3]; repeat (first | exact Below.refl _ _ | refine below_alloc ?_))
  have HWs3 : Hid (W3.heap.size = wl.heap.size + 1 + 1 + 1) := Lib.hid (by rw [← hW3]; simp)
  have HBW3 : Hid (wl.heap.size + 1 + 1 ≤ W3.heap.size) := Lib.hid (by have := HWs3.out; omega)
  have HC3 := fun (W1 : World) (hb : Below (wl.heap.size + 1 + 1) W3 W1) => Lib.hid (show W1.cell? ⟨w.heap.size, 0, none⟩ = some (.int .i64 0) ∧ W1.cell? ⟨w.heap.size, 1, none⟩ = some (.int .i64 0) ∧ W1.cell? ⟨w.heap.size, 2, none⟩ = some (.int .i64 0) ∧ W1.cell? ⟨w.heap.size, 3, none⟩ = some (.slice none 0 0) ∧ W1.cell? ⟨w.heap.size, 4, none⟩ = some (.slice none 0 0) ∧ W1.cell? ⟨w.heap.size, 5, none⟩ = some (.slice (some ⟨fb, 0, none⟩) 1 c) ∧ W1.cell? ⟨wa.heap.size, 0, none⟩ = some (.slice none 0 0) ∧ W1.cell? ⟨wa.heap.size, 1, none⟩ = some (.slice none 0 0) from by have ho := (HC2 W1 (in_of HB2.out HW3.out hb (Nat.le_trans HBW2.out HB2.out.size) (by have h1 := HBW2.out; have h2 := HB2.out.size; have h3 := HW3.out.size; have h4 := HWs3.out; omega))).out; exact ⟨ho.1, ho.2.1, ho.2.2.1, ho.2.2.2.1, ho.2.2.2.2.1, ho.2.2.2.2.2.1, ho.2.2.2.2.2.2.1, ho.2.2.2.2.2.2.2⟩)
  have HB3 := Lib.hid (Below.refl (wl.heap.size + 1 + 1) W3)
  clear q23_0 q23_1 q23_2 q23_3 q23_4 q23_5 q23_6 q23_7 r23_0 r23_1 r23_0_0 r23_0_1 r23_0_2 r23_1_0 r23_1_1 r23_1_2
  obtain ⟨q24_0, q24_1, q24_2, q24_3, q24_4, q24_5, q24_6, q24_7⟩ := (HC3 _ HB3.out).out
  have r24_0 := Nat.lt_of_lt_of_le (show w.heap.size < W3.heap.size by have h0 : w.heap.size < W2.heap.size := (by have h0 : w.heap.size < W.heap.size := (by have := HWs.out; omega); have h2 := HB.out.size; have h3 := HW2.out.size; omega); have h2 := HB2.out.size; have h3 := HW3.out.size; omega) HB3.out.size
  have r24_1 := Nat.lt_of_lt_of_le (show wa.heap.size < W3.heap.size by have h0 : wa.heap.size < W2.heap.size := (by have := HWs2.out; omega); have h2 := HB2.out.size; have h3 := HW3.out.size; omega) HB3.out.size
  have HM : Hid (MapN W3 Try.prog 3 (wl.heap.size + 1 + 1) 0 ekI evB (fun _ => none)) := Lib.hid (by
    have e : ((wl.alloc (.map #[] 0)).alloc (.map #[] 0)).heap.size = wl.heap.size + 1 + 1 := by simp
    have h1 := MapN.made ((wl.alloc (.map #[] 0)).alloc (.map #[] 0)) Try.prog 3 ekI evB
    rw [e] at h1
    rw [← hW3]
    exact h1)
  clear hW3
  have HF := Lib.hid (HF.out.below HW3.out)
  have HFC := fun (W1 : World) (h : Below (wl.heap.size + 1 + 1) W3 W1) => Lib.hid (HF.out.belowB h (by have := HFL.out; omega))
  refine (partsE _ _ _ _ _).mono ?_
  rintro e wp ⟨pb, rfl, hp1, hp2, hp3, hpb⟩
  have HB3 := Lib.hid (below_next HB3.out (Nat.le_trans HBW3.out HB3.out.size) hpb)
  have HM := Lib.hid (HM.out.below hpb)
  obtain ⟨pc0, pc1, pc2⟩ := hp3
  clear q24_0 q24_1 q24_2 q24_3 q24_4 q24_5 q24_6 q24_7 r24_0 r24_1
  obtain ⟨q25_0, q25_1, q25_2, q25_3, q25_4, q25_5, q25_6, q25_7⟩ := (HC3 _ HB3.out).out
  have r25_0 := Nat.lt_of_lt_of_le (show w.heap.size < W3.heap.size by have h0 : w.heap.size < W2.heap.size := (by have h0 : w.heap.size < W.heap.size := (by have := HWs.out; omega); have h2 := HB.out.size; have h3 := HW2.out.size; omega); have h2 := HB2.out.size; have h3 := HW3.out.size; omega) HB3.out.size
  have r25_1 := Nat.lt_of_lt_of_le (show wa.heap.size < W3.heap.size by have h0 : wa.heap.size < W2.heap.size := (by have := HWs2.out; omega); have h2 := HB2.out.size; have h3 := HW3.out.size; omega) HB3.out.size
  clear hpb hp1
  go_wp2_with fail
  refine wp_loop_rounds 2 ?_
  rw [rounds_succ]
  go_wp2_with fail
  have HM := Lib.hid (HM.out.alloc (.cells #[.slice none 0 0, .slice none 0 0, .slice none 0 0] 41))
  have HK0 := Lib.hid (key_int 0 (by decide))
  refine (oneE _ _ _).mono ?_
  rintro e w26 ⟨rfl, hb26⟩
  have HB3 := Lib.hid (below_next (below_next HB3.out (Nat.le_trans HBW3.out HB3.out.size) (by repeat (first | exact Below.refl _ _ | refine below_alloc ?_))) (by first | exact (Nat.le_trans HBW3.out HB3.out.size) | (simp; done) | (have h1 := HBW3.out; have h2 := HB3.out.size; simp; omega)) hb26)
  clear q25_0 q25_1 q25_2 q25_3 q25_4 q25_5 q25_6 q25_7 r25_0 r25_1
  obtain ⟨q26_0, q26_1, q26_2, q26_3, q26_4, q26_5, q26_6, q26_7⟩ := (HC3 _ HB3.out).out
  have HM := Lib.hid (HM.out.below hb26); have lk := MapT.look HM.out.toT Try.keyInt Try.underlying144 (zeroBool _) (x := (0 : Int)) HK0.out; simp only [Option.map_none, Option.getD_none] at lk
  clear hb26
  have r26_0 := Nat.lt_of_lt_of_le (show w.heap.size < W3.heap.size by have h0 : w.heap.size < W2.heap.size := (by have h0 : w.heap.size < W.heap.size := (by have := HWs.out; omega); have h2 := HB.out.size; have h3 := HW2.out.size; omega); have h2 := HB2.out.size; have h3 := HW3.out.size; omega) HB3.out.size
  have r26_1 := Nat.lt_of_lt_of_le (show wa.heap.size < W3.heap.size by have h0 : wa.heap.size < W2.heap.size := (by have := HWs2.out; omega); have h2 := HB2.out.size; have h3 := HW3.out.size; omega) HB3.out.size
  go_wp2_with (at_mapUpdate; refine wpList_update_N _ rfl _ _ _ 144 rfl 3 4 Try.keyInt Try.underlying144 (wl.heap.size + 1 + 1) 0 ekI evB (fun _ => none) HM.out rfl (by decide) 0 _ rfl HK0.out (ekI_inj _) rfl true rfl ?_; intro w7 hm7 hg7; have HM7 := Lib.hid hm7; have HB3 := Lib.hid (HB3.out.grown hg7 (Nat.le_trans HBW3.out HB3.out.size) (fun k e => by injection e with e; omega)); have HF7 := HFC _ HB3.out; clear hm7 hg7 lk)
  clear q26_0 q26_1 q26_2 q26_3 q26_4 q26_5 q26_6 q26_7 r26_0 r26_1
  obtain ⟨q27_0, q27_1, q27_2, q27_3, q27_4, q27_5, q27_6, q27_7⟩ := (HC3 _ HB3.out).out
  have r27_0 := Nat.lt_of_lt_of_le (show w.heap.size < W3.heap.size by have h0 : w.heap.size < W2.heap.size := (by have h0 : w.heap.size < W.heap.size := (by have := HWs.out; omega); have h2 := HB.out.size; have h3 := HW2.out.size; omega); have h2 := HB2.out.size; have h3 := HW3.out.size; omega) HB3.out.size
  have r27_1 := Nat.lt_of_lt_of_le (show wa.heap.size < W3.heap.size by have h0 : wa.heap.size < W2.heap.size := (by have := HWs2.out; omega); have h2 := HB2.out.size; have h3 := HW3.out.size; omega) HB3.out.size
  have f0 := HF7.out.1
  have f1 := HF7.out.2.1
  have lk7 := MapT.look (MapT.alloc HM7.out.toT (.cells #[.int .i64 0, .int .i64 0] 83)) Try.keyInt Try.underlying144 (zeroBool _) (x := (0 : Int)) HK0.out
  have ln7 := fun ty => MapN.len (MapN.alloc HM7.out (.cells #[.int .i64 0, .int .i64 0] 83)) Try.underlying144 ty
  simp only [updT, if_true, Option.map_some, Option.getD_some] at lk7
  rw [rounds_succ]
  go_wp2_with fail
  refine wp_loop_rounds 2 ?_
  rw [rounds_succ]
  go_wp2_with fail
  rw [rounds_succ]
  go_wp2_with fail
  have HB3 := Lib.hid (HB3.out.alloc (Nat.le_trans HBW3.out HB3.out.size) (.cells #[.int .i64 0, .int .i64 0] 83))
  have HB2 := Lib.hid (in_of HB2.out HW3.out HB3.out (Nat.le_trans HBW2.out HB2.out.size) (by have h1 := HBW2.out; have h2 := HB2.out.size; have h3 := HW3.out.size; have h4 := HWs3.out; omega))
  clear q27_0 q27_1 q27_2 q27_3 q27_4 q27_5 q27_6 q27_7 r27_0 r27_1
  have HB := Lib.hid (in_of HB.out HW2.out HB2.out (Nat.le_trans HBW.out HB.out.size) (by have h1 := HBW.out; have h2 := HB.out.size; have h3 := HW2.out.size; have h4 := HWs2.out; omega))
  go_ret
  exact ⟨rfl, (HW.out.trans (HB.out.mono (by have := HWs.out; omega)))⟩
end Go.Proofs.Ythopjhifepijiaa
