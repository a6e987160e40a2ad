/- The walk of croftlaw18.AuditPlans. -/
import Derived.Test.YthopjhifepijiaaSameR18
import Derived.Test.YthopjhifepijiaaPlan18a
import Derived.Test.YthopjhifepijiaaPlan18r
import Derived.Test.YthopjhifepijiaaAwake18
import Derived.Deep.RegionHeld3
namespace Go.Proofs.Ythopjhifepijiaa
open Go.RowKit Go.Joins
set_option linter.unusedVariables false
theorem tb_mono {w : World} {B B' : Nat} {va ea fa : Option Addr} {vn en fn : Nat} {t : TB} (h : TbIn w B va ea fa vn en fn t) (hb : B ≤ B') : TbIn w B' va ea fa vn en fn t := ⟨h.vs.mono hb, h.es.mono hb, h.fs.mono hb⟩
theorem tb_of {w w8 W1 : World} {B : Nat} {va ea fa a1 a2 : Option Addr} {vn en fn : Nat} {t : TB} (h : TbIn w B va ea fa vn en fn t) (h8 : Below B w w8) (hB : B ≤ w8.heap.size) (hv : VRIn w8 w8.heap.size a1 vn t.vs) (he : ERIn w8 w8.heap.size a2 en t.es) (hb : Below w8.heap.size w8 W1) :
    TbIn W1 W1.heap.size a1 a2 fa vn en fn t :=
  ⟨(hv.below hb).mono hb.size, (he.below hb).mono hb.size, ((h.fs.below h8).below (hb.mono hB)).mono (Nat.le_trans hB hb.size)⟩
set_option maxRecDepth 100000 in
set_option maxHeartbeats 8000000 in
theorem auditPlans_walk {w : World} {vn en fn vm em fm vc ec fc vd ed fd : Nat} {va ea fa vb eb fb : Option Addr} {s t : TB} (hs : TbIn w w.heap.size va ea fa vn en fn s) (ht : TbIn w w.heap.size vb eb fb vm em fm t) :
    Calls Try.prog 7 #[.agg #[.int .i64 s.lv, .int .i64 s.le, .int .i64 s.lf, .slice va vn vc, .slice ea en ec, .slice fa fn fc], .agg #[.int .i64 t.lv, .int .i64 t.le, .int .i64 t.lf, .slice vb vm vd, .slice eb em ed, .slice fb fm fd]] w fun e w' => e = .returned (.bool true) ∧ Below w.heap.size w w' := by
  have HS := Lib.hid hs
  have HT := Lib.hid ht
  clear hs ht
  have HF1 := fun (w1 : World) (a b c : Int) (va ea fa : Option Addr) (vc ec fc : Nat) => few18_any w1 a b c va ea fa vn en fn vc ec fc
  have HF2 := fun (w1 : World) (a b c : Int) (va ea fa : Option Addr) (vc ec fc : Nat) => few18_any w1 a b c va ea fa vm em fm vc ec fc
  cases h1 : decide (vn ≤ 24 ∧ en ≤ 24 ∧ fn ≤ 100)
  · simp only [h1] at HF1
    go_enter Try.func7, Try.ntmps7
    go_wp2_with fail
    first | refine wp_name (fun W hW => ?_) | refine calls_name (fun W hW => ?_)
    have HW : Hid (Below w.heap.size w W) := Lib.hid (by rw [← hW]; repeat (first | exact Below.refl _ _ | refine below_alloc ?_))
    have HWs : Hid (W.heap.size = w.heap.size + 1 + 1) := Lib.hid (by rw [← hW]; simp)
    have HBW : Hid (W.heap.size ≤ W.heap.size) := Lib.hid (by have := HWs.out; omega)
    have HC := fun (W1 : World) (hb : Below (W.heap.size) W W1) => Lib.hid (show W1.cell? ⟨w.heap.size, 0, none⟩ = some (.int .i64 s.lv) ∧ W1.cell? ⟨w.heap.size, 1, none⟩ = some (.int .i64 s.le) ∧ W1.cell? ⟨w.heap.size, 2, none⟩ = some (.int .i64 s.lf) ∧ W1.cell? ⟨w.heap.size, 3, none⟩ = some (.slice va vn vc) ∧ W1.cell? ⟨w.heap.size, 4, none⟩ = some (.slice ea en ec) ∧ W1.cell? ⟨w.heap.size, 5, none⟩ = some (.slice fa fn fc) ∧ W1.cell? ⟨w.heap.size + 1, 0, none⟩ = some (.int .i64 t.lv) ∧ W1.cell? ⟨w.heap.size + 1, 1, none⟩ = some (.int .i64 t.le) ∧ W1.cell? ⟨w.heap.size + 1, 2, none⟩ = some (.int .i64 t.lf) ∧ W1.cell? ⟨w.heap.size + 1, 3, none⟩ = some (.slice vb vm vd) ∧ W1.cell? ⟨w.heap.size + 1, 4, none⟩ = some (.slice eb em ed) ∧ W1.cell? ⟨w.heap.size + 1, 5, none⟩ = some (.slice fb fm fd) from by exact ⟨(hb.cell (p := ⟨w.heap.size, 0, none⟩) (by show w.heap.size < W.heap.size; have := HWs.out; omega)).trans (by rw [← hW]; clear hW; go_simp), (hb.cell (p := ⟨w.heap.size, 1, none⟩) (by show w.heap.size < W.heap.size; have := HWs.out; omega)).trans (by rw [← hW]; clear hW; go_simp), (hb.cell (p := ⟨w.heap.size, 2, none⟩) (by show w.heap.size < W.heap.size; have := HWs.out; omega)).trans (by rw [← hW]; clear hW; go_simp), (hb.cell (p := ⟨w.heap.size, 3, none⟩) (by show w.heap.size < W.heap.size; have := HWs.out; omega)).trans (by rw [← hW]; clear hW; go_simp), (hb.cell (p := ⟨w.heap.size, 4, none⟩) (by show w.heap.size < W.heap.size; have := HWs.out; omega)).trans (by rw [← hW]; clear hW; go_simp), (hb.cell (p := ⟨w.heap.size, 5, none⟩) (by show w.heap.size < W.heap.size; have := HWs.out; omega)).trans (by rw [← hW]; clear hW; go_simp), (hb.cell (p := ⟨w.heap.size + 1, 0, none⟩) (by show w.heap.size + 1 < W.heap.size; have := HWs.out; omega)).trans (by rw [← hW]; clear hW; go_simp), (hb.cell (p := ⟨w.heap.size + 1, 1, none⟩) (by show w.heap.size + 1 < W.heap.size; have := HWs.out; omega)).trans (by rw [← hW]; clear hW; go_simp), (hb.cell (p := ⟨w.heap.size + 1, 2, none⟩) (by show w.heap.size + 1 < W.heap.size; have := HWs.out; omega)).trans (by rw [← hW]; clear hW; go_simp), (hb.cell (p := ⟨w.heap.size + 1, 3, none⟩) (by show w.heap.size + 1 < W.heap.size; have := HWs.out; omega)).trans (by rw [← hW]; clear hW; go_simp), (hb.cell (p := ⟨w.heap.size + 1, 4, none⟩) (by show w.heap.size + 1 < W.heap.size; have := HWs.out; omega)).trans (by rw [← hW]; clear hW; go_simp), (hb.cell (p := ⟨w.heap.size + 1, 5, none⟩) (by show w.heap.size + 1 < W.heap.size; have := HWs.out; omega)).trans (by rw [← hW]; clear hW; go_simp)⟩)
    have HB := Lib.hid (Below.refl (W.heap.size) W)
    clear hW
    obtain ⟨q1_0, q1_1, q1_2, q1_3, q1_4, q1_5, q1_6, q1_7, q1_8, q1_9, q1_10, q1_11⟩ := (HC _ HB.out).out
    have r1_0 := Nat.lt_of_lt_of_le (show w.heap.size < W.heap.size by have := HWs.out; omega) HB.out.size
    have r1_1 := Nat.lt_of_lt_of_le (show w.heap.size + 1 < W.heap.size by have := HWs.out; omega) HB.out.size
    refine (HF1 _ s.lv s.le s.lf va ea fa vc ec fc).mono ?_
    rintro e w2 ⟨rfl, hb2⟩
    have HB := Lib.hid (below_next (below_next HB.out (Nat.le_trans HBW.out HB.out.size) (by repeat (first | exact Below.refl _ _ | refine below_alloc ?_))) (by first | exact (Nat.le_trans HBW.out HB.out.size) | (simp; done) | (have h1 := HBW.out; have h2 := HB.out.size; simp; omega)) hb2)
    clear q1_0 q1_1 q1_2 q1_3 q1_4 q1_5 q1_6 q1_7 q1_8 q1_9 q1_10 q1_11 r1_0 r1_1
    obtain ⟨q2_0, q2_1, q2_2, q2_3, q2_4, q2_5, q2_6, q2_7, q2_8, q2_9, q2_10, q2_11⟩ := (HC _ HB.out).out
    clear hb2
    have r2_0 := Nat.lt_of_lt_of_le (show w.heap.size < W.heap.size by have := HWs.out; omega) HB.out.size
    have r2_1 := Nat.lt_of_lt_of_le (show w.heap.size + 1 < W.heap.size by have := HWs.out; omega) HB.out.size
    go_wp2_with fail
    refine (awake18_any _).mono ?_
    rintro e w3 ⟨rfl, hb3⟩
    have HB := Lib.hid (below_next (below_next HB.out (Nat.le_trans HBW.out HB.out.size) (by repeat (first | exact Below.refl _ _ | refine below_alloc ?_))) (by first | exact (Nat.le_trans HBW.out HB.out.size) | (simp; done) | (have h1 := HBW.out; have h2 := HB.out.size; simp; omega)) hb3)
    clear q2_0 q2_1 q2_2 q2_3 q2_4 q2_5 q2_6 q2_7 q2_8 q2_9 q2_10 q2_11 r2_0 r2_1
    obtain ⟨q3_0, q3_1, q3_2, q3_3, q3_4, q3_5, q3_6, q3_7, q3_8, q3_9, q3_10, q3_11⟩ := (HC _ HB.out).out
    clear hb3
    have r3_0 := Nat.lt_of_lt_of_le (show w.heap.size < W.heap.size by have := HWs.out; omega) HB.out.size
    have r3_1 := Nat.lt_of_lt_of_le (show w.heap.size + 1 < W.heap.size by have := HWs.out; omega) HB.out.size
    go_wp2_with fail
    go_ret
    exact ⟨rfl, (HW.out.trans (HB.out.mono (by have := HWs.out; omega)))⟩
  cases h2 : decide (vm ≤ 24 ∧ em ≤ 24 ∧ fm ≤ 100)
  · simp only [h1] at HF1
    simp only [h2] at HF2
    go_enter Try.func7, Try.ntmps7
    go_wp2_with fail
    first | refine wp_name (fun W hW => ?_) | refine calls_name (fun W hW => ?_)
    have HW : Hid (Below w.heap.size w W) := Lib.hid (by rw [← hW]; repeat (first | exact Below.refl _ _ | refine below_alloc ?_))
    have HWs : Hid (W.heap.size = w.heap.size + 1 + 1) := Lib.hid (by rw [← hW]; simp)
    have HBW : Hid (W.heap.size ≤ W.heap.size) := Lib.hid (by have := HWs.out; omega)
    have HC := fun (W1 : World) (hb : Below (W.heap.size) W W1) => Lib.hid (show W1.cell? ⟨w.heap.size, 0, none⟩ = some (.int .i64 s.lv) ∧ W1.cell? ⟨w.heap.size, 1, none⟩ = some (.int .i64 s.le) ∧ W1.cell? ⟨w.heap.size, 2, none⟩ = some (.int .i64 s.lf) ∧ W1.cell? ⟨w.heap.size, 3, none⟩ = some (.slice va vn vc) ∧ W1.cell? ⟨w.heap.size, 4, none⟩ = some (.slice ea en ec) ∧ W1.cell? ⟨w.heap.size, 5, none⟩ = some (.slice fa fn fc) ∧ W1.cell? ⟨w.heap.size + 1, 0, none⟩ = some (.int .i64 t.lv) ∧ W1.cell? ⟨w.heap.size + 1, 1, none⟩ = some (.int .i64 t.le) ∧ W1.cell? ⟨w.heap.size + 1, 2, none⟩ = some (.int .i64 t.lf) ∧ W1.cell? ⟨w.heap.size + 1, 3, none⟩ = some (.slice vb vm vd) ∧ W1.cell? ⟨w.heap.size + 1, 4, none⟩ = some (.slice eb em ed) ∧ W1.cell? ⟨w.heap.size + 1, 5, none⟩ = some (.slice fb fm fd) from by exact ⟨(hb.cell (p := ⟨w.heap.size, 0, none⟩) (by show w.heap.size < W.heap.size; have := HWs.out; omega)).trans (by rw [← hW]; clear hW; go_simp), (hb.cell (p := ⟨w.heap.size, 1, none⟩) (by show w.heap.size < W.heap.size; have := HWs.out; omega)).trans (by rw [← hW]; clear hW; go_simp), (hb.cell (p := ⟨w.heap.size, 2, none⟩) (by show w.heap.size < W.heap.size; have := HWs.out; omega)).trans (by rw [← hW]; clear hW; go_simp), (hb.cell (p := ⟨w.heap.size, 3, none⟩) (by show w.heap.size < W.heap.size; have := HWs.out; omega)).trans (by rw [← hW]; clear hW; go_simp), (hb.cell (p := ⟨w.heap.size, 4, none⟩) (by show w.heap.size < W.heap.size; have := HWs.out; omega)).trans (by rw [← hW]; clear hW; go_simp), (hb.cell (p := ⟨w.heap.size, 5, none⟩) (by show w.heap.size < W.heap.size; have := HWs.out; omega)).trans (by rw [← hW]; clear hW; go_simp), (hb.cell (p := ⟨w.heap.size + 1, 0, none⟩) (by show w.heap.size + 1 < W.heap.size; have := HWs.out; omega)).trans (by rw [← hW]; clear hW; go_simp), (hb.cell (p := ⟨w.heap.size + 1, 1, none⟩) (by show w.heap.size + 1 < W.heap.size; have := HWs.out; omega)).trans (by rw [← hW]; clear hW; go_simp), (hb.cell (p := ⟨w.heap.size + 1, 2, none⟩) (by show w.heap.size + 1 < W.heap.size; have := HWs.out; omega)).trans (by rw [← hW]; clear hW; go_simp), (hb.cell (p := ⟨w.heap.size + 1, 3, none⟩) (by show w.heap.size + 1 < W.heap.size; have := HWs.out; omega)).trans (by rw [← hW]; clear hW; go_simp), (hb.cell (p := ⟨w.heap.size + 1, 4, none⟩) (by show w.heap.size + 1 < W.heap.size; have := HWs.out; omega)).trans (by rw [← hW]; clear hW; go_simp), (hb.cell (p := ⟨w.heap.size + 1, 5, none⟩) (by show w.heap.size + 1 < W.heap.size; have := HWs.out; omega)).trans (by rw [← hW]; clear hW; go_simp)⟩)
    have HB := Lib.hid (Below.refl (W.heap.size) W)
    clear hW
    obtain ⟨q5_0, q5_1, q5_2, q5_3, q5_4, q5_5, q5_6, q5_7, q5_8, q5_9, q5_10, q5_11⟩ := (HC _ HB.out).out
    have r5_0 := Nat.lt_of_lt_of_le (show w.heap.size < W.heap.size by have := HWs.out; omega) HB.out.size
    have r5_1 := Nat.lt_of_lt_of_le (show w.heap.size + 1 < W.heap.size by have := HWs.out; omega) HB.out.size
    refine (HF1 _ s.lv s.le s.lf va ea fa vc ec fc).mono ?_
    rintro e w6 ⟨rfl, hb6⟩
    have HB := Lib.hid (below_next (below_next HB.out (Nat.le_trans HBW.out HB.out.size) (by repeat (first | exact Below.refl _ _ | refine below_alloc ?_))) (by first | exact (Nat.le_trans HBW.out HB.out.size) | (simp; done) | (have h1 := HBW.out; have h2 := HB.out.size; simp; omega)) hb6)
    clear q5_0 q5_1 q5_2 q5_3 q5_4 q5_5 q5_6 q5_7 q5_8 q5_9 q5_10 q5_11 r5_0 r5_1
    obtain ⟨q6_0, q6_1, q6_2, q6_3, q6_4, q6_5, q6_6, q6_7, q6_8, q6_9, q6_10, q6_11⟩ := (HC _ HB.out).out
    clear hb6
    have r6_0 := Nat.lt_of_lt_of_le (show w.heap.size < W.heap.size by have := HWs.out; omega) HB.out.size
    have r6_1 := Nat.lt_of_lt_of_le (show w.heap.size + 1 < W.heap.size by have := HWs.out; omega) HB.out.size
    go_wp2_with fail
    refine (HF2 _ t.lv t.le t.lf vb eb fb vd ed fd).mono ?_
    rintro e w7 ⟨rfl, hb7⟩
    have HB := Lib.hid (below_next (below_next HB.out (Nat.le_trans HBW.out HB.out.size) (by repeat (first | exact Below.refl _ _ | refine below_alloc ?_))) (by first | exact (Nat.le_trans HBW.out HB.out.size) | (simp; done) | (have h1 := HBW.out; have h2 := HB.out.size; simp; omega)) hb7)
    clear q6_0 q6_1 q6_2 q6_3 q6_4 q6_5 q6_6 q6_7 q6_8 q6_9 q6_10 q6_11 r6_0 r6_1
    obtain ⟨q7_0, q7_1, q7_2, q7_3, q7_4, q7_5, q7_6, q7_7, q7_8, q7_9, q7_10, q7_11⟩ := (HC _ HB.out).out
    clear hb7
    have r7_0 := Nat.lt_of_lt_of_le (show w.heap.size < W.heap.size by have := HWs.out; omega) HB.out.size
    have r7_1 := Nat.lt_of_lt_of_le (show w.heap.size + 1 < W.heap.size by have := HWs.out; omega) HB.out.size
    go_wp2_with fail
    refine (awake18_any _).mono ?_
    rintro e w8 ⟨rfl, hb8⟩
    have HB := Lib.hid (below_next (below_next HB.out (Nat.le_trans HBW.out HB.out.size) (by repeat (first | exact Below.refl _ _ | refine below_alloc ?_))) (by first | exact (Nat.le_trans HBW.out HB.out.size) | (simp; done) | (have h1 := HBW.out; have h2 := HB.out.size; simp; omega)) hb8)
    clear q7_0 q7_1 q7_2 q7_3 q7_4 q7_5 q7_6 q7_7 q7_8 q7_9 q7_10 q7_11 r7_0 r7_1
    obtain ⟨q8_0, q8_1, q8_2, q8_3, q8_4, q8_5, q8_6, q8_7, q8_8, q8_9, q8_10, q8_11⟩ := (HC _ HB.out).out
    clear hb8
    have r8_0 := Nat.lt_of_lt_of_le (show w.heap.size < W.heap.size by have := HWs.out; omega) HB.out.size
    have r8_1 := Nat.lt_of_lt_of_le (show w.heap.size + 1 < W.heap.size by have := HWs.out; omega) HB.out.size
    go_wp2_with fail
    go_ret
    exact ⟨rfl, (HW.out.trans (HB.out.mono (by have := HWs.out; omega)))⟩
  simp only [h1] at HF1
  simp only [h2] at HF2
  have n1 := (of_decide_eq_true h1).1
  have n2 := (of_decide_eq_true h1).2.1
  have n3 := (of_decide_eq_true h1).2.2
  have n4 := (of_decide_eq_true h2).1
  have n5 := (of_decide_eq_true h2).2.1
  have n6 := (of_decide_eq_true h2).2.2
  clear h1 h2
  have z1 : ((vn : Int) != (vn : Int)) = false := by simp
  have z2 : ((en : Int) != (en : Int)) = false := by simp
  go_enter Try.func7, Try.ntmps7
  go_wp2_with fail
  first | refine wp_name (fun W hW => ?_) | refine calls_name (fun W hW => ?_)
  have HW : Hid (Below w.heap.size w W) := Lib.hid (by rw [← hW]; repeat (first | exact Below.refl _ _ | refine below_alloc ?_))
  have HWs : Hid (W.heap.size = w.heap.size + 1 + 1) := Lib.hid (by rw [← hW]; simp)
  have HBW : Hid (W.heap.size ≤ W.heap.size) := Lib.hid (by have := HWs.out; omega)
  have HC := fun (W1 : World) (hb : Below (W.heap.size) W W1) => Lib.hid (show W1.cell? ⟨w.heap.size, 0, none⟩ = some (.int .i64 s.lv) ∧ W1.cell? ⟨w.heap.size, 1, none⟩ = some (.int .i64 s.le) ∧ W1.cell? ⟨w.heap.size, 2, none⟩ = some (.int .i64 s.lf) ∧ W1.cell? ⟨w.heap.size, 3, none⟩ = some (.slice va vn vc) ∧ W1.cell? ⟨w.heap.size, 4, none⟩ = some (.slice ea en ec) ∧ W1.cell? ⟨w.heap.size, 5, none⟩ = some (.slice fa fn fc) ∧ W1.cell? ⟨w.heap.size + 1, 0, none⟩ = some (.int .i64 t.lv) ∧ W1.cell? ⟨w.heap.size + 1, 1, none⟩ = some (.int .i64 t.le) ∧ W1.cell? ⟨w.heap.size + 1, 2, none⟩ = some (.int .i64 t.lf) ∧ W1.cell? ⟨w.heap.size + 1, 3, none⟩ = some (.slice vb vm vd) ∧ W1.cell? ⟨w.heap.size + 1, 4, none⟩ = some (.slice eb em ed) ∧ W1.cell? ⟨w.heap.size + 1, 5, none⟩ = some (.slice fb fm fd) from by exact ⟨(hb.cell (p := ⟨w.heap.size, 0, none⟩) (by show w.heap.size < W.heap.size; have := HWs.out; omega)).trans (by rw [← hW]; clear hW; go_simp), (hb.cell (p := ⟨w.heap.size, 1, none⟩) (by show w.heap.size < W.heap.size; have := HWs.out; omega)).trans (by rw [← hW]; clear hW; go_simp), (hb.cell (p := ⟨w.heap.size, 2, none⟩) (by show w.heap.size < W.heap.size; have := HWs.out; omega)).trans (by rw [← hW]; clear hW; go_simp), (hb.cell (p := ⟨w.heap.size, 3, none⟩) (by show w.heap.size < W.heap.size; have := HWs.out; omega)).trans (by rw [← hW]; clear hW; go_simp), (hb.cell (p := ⟨w.heap.size, 4, none⟩) (by show w.heap.size < W.heap.size; have := HWs.out; omega)).trans (by rw [← hW]; clear hW; go_simp), (hb.cell (p := ⟨w.heap.size, 5, none⟩) (by show w.heap.size < W.heap.size; have := HWs.out; omega)).trans (by rw [← hW]; clear hW; go_simp), (hb.cell (p := ⟨w.heap.size + 1, 0, none⟩) (by show w.heap.size + 1 < W.heap.size; have := HWs.out; omega)).trans (by rw [← hW]; clear hW; go_simp), (hb.cell (p := ⟨w.heap.size + 1, 1, none⟩) (by show w.heap.size + 1 < W.heap.size; have := HWs.out; omega)).trans (by rw [← hW]; clear hW; go_simp), (hb.cell (p := ⟨w.heap.size + 1, 2, none⟩) (by show w.heap.size + 1 < W.heap.size; have := HWs.out; omega)).trans (by rw [← hW]; clear hW; go_simp), (hb.cell (p := ⟨w.heap.size + 1, 3, none⟩) (by show w.heap.size + 1 < W.heap.size; have := HWs.out; omega)).trans (by rw [← hW]; clear hW; go_simp), (hb.cell (p := ⟨w.heap.size + 1, 4, none⟩) (by show w.heap.size + 1 < W.heap.size; have := HWs.out; omega)).trans (by rw [← hW]; clear hW; go_simp), (hb.cell (p := ⟨w.heap.size + 1, 5, none⟩) (by show w.heap.size + 1 < W.heap.size; have := HWs.out; omega)).trans (by rw [← hW]; clear hW; go_simp)⟩)
  have HB := Lib.hid (Below.refl (W.heap.size) W)
  clear hW
  obtain ⟨q10_0, q10_1, q10_2, q10_3, q10_4, q10_5, q10_6, q10_7, q10_8, q10_9, q10_10, q10_11⟩ := (HC _ HB.out).out
  have r10_0 := Nat.lt_of_lt_of_le (show w.heap.size < W.heap.size by have := HWs.out; omega) HB.out.size
  have r10_1 := Nat.lt_of_lt_of_le (show w.heap.size + 1 < W.heap.size by have := HWs.out; omega) HB.out.size
  refine (HF1 _ s.lv s.le s.lf va ea fa vc ec fc).mono ?_
  rintro e w11 ⟨rfl, hb11⟩
  have HB := Lib.hid (below_next (below_next HB.out (Nat.le_trans HBW.out HB.out.size) (by repeat (first | exact Below.refl _ _ | refine below_alloc ?_))) (by first | exact (Nat.le_trans HBW.out HB.out.size) | (simp; done) | (have h1 := HBW.out; have h2 := HB.out.size; simp; omega)) hb11)
  clear q10_0 q10_1 q10_2 q10_3 q10_4 q10_5 q10_6 q10_7 q10_8 q10_9 q10_10 q10_11 r10_0 r10_1
  obtain ⟨q11_0, q11_1, q11_2, q11_3, q11_4, q11_5, q11_6, q11_7, q11_8, q11_9, q11_10, q11_11⟩ := (HC _ HB.out).out
  clear hb11
  have r11_0 := Nat.lt_of_lt_of_le (show w.heap.size < W.heap.size by have := HWs.out; omega) HB.out.size
  have r11_1 := Nat.lt_of_lt_of_le (show w.heap.size + 1 < W.heap.size by have := HWs.out; omega) HB.out.size
  go_wp2_with fail
  refine (HF2 _ t.lv t.le t.lf vb eb fb vd ed fd).mono ?_
  rintro e w12 ⟨rfl, hb12⟩
  have HB := Lib.hid (below_next (below_next HB.out (Nat.le_trans HBW.out HB.out.size) (by repeat (first | exact Below.refl _ _ | refine below_alloc ?_))) (by first | exact (Nat.le_trans HBW.out HB.out.size) | (simp; done) | (have h1 := HBW.out; have h2 := HB.out.size; simp; omega)) hb12)
  clear q11_0 q11_1 q11_2 q11_3 q11_4 q11_5 q11_6 q11_7 q11_8 q11_9 q11_10 q11_11 r11_0 r11_1
  obtain ⟨q12_0, q12_1, q12_2, q12_3, q12_4, q12_5, q12_6, q12_7, q12_8, q12_9, q12_10, q12_11⟩ := (HC _ HB.out).out
  clear hb12
  have r12_0 := Nat.lt_of_lt_of_le (show w.heap.size < W.heap.size by have := HWs.out; omega) HB.out.size
  have r12_1 := Nat.lt_of_lt_of_le (show w.heap.size + 1 < W.heap.size by have := HWs.out; omega) HB.out.size
  go_wp2_with fail
  refine (conv_any (HS.out.below (HW.out.trans (HB.out.mono HW.out.size))) (Nat.le_trans HW.out.size HB.out.size) (by omega) (by omega)).mono ?_
  rintro e w3 ⟨a1,c1,a2,c2,rfl,hv3,he3,hb13⟩
  have HB := Lib.hid (below_next (below_next HB.out (Nat.le_trans HBW.out HB.out.size) (by repeat (first | exact Below.refl _ _ | refine below_alloc ?_))) (by first | exact (Nat.le_trans HBW.out HB.out.size) | (simp; done) | (have h1 := HBW.out; have h2 := HB.out.size; simp; omega)) hb13)
  clear q12_0 q12_1 q12_2 q12_3 q12_4 q12_5 q12_6 q12_7 q12_8 q12_9 q12_10 q12_11 r12_0 r12_1
  obtain ⟨q13_0, q13_1, q13_2, q13_3, q13_4, q13_5, q13_6, q13_7, q13_8, q13_9, q13_10, q13_11⟩ := (HC _ HB.out).out
  clear hb13
  have r13_0 := Nat.lt_of_lt_of_le (show w.heap.size < W.heap.size by have := HWs.out; omega) HB.out.size
  have r13_1 := Nat.lt_of_lt_of_le (show w.heap.size + 1 < W.heap.size by have := HWs.out; omega) HB.out.size
  have HV3 := Lib.hid hv3
  have HE3 := Lib.hid he3
  clear hv3 he3
  go_wp2_with fail
  refine (planA_any HV3.out HE3.out (Nat.le_refl _) (by omega) (by omega) _ _ _ _ _ _).mono ?_
  rintro e w4 ⟨p1,d1,p2,d2,rfl,hv4,he4,hb14⟩
  have HB := Lib.hid (below_next (below_next HB.out (Nat.le_trans HBW.out HB.out.size) (by repeat (first | exact Below.refl _ _ | refine below_alloc ?_))) (by first | exact (Nat.le_trans HBW.out HB.out.size) | (simp; done) | (have h1 := HBW.out; have h2 := HB.out.size; simp; omega)) hb14)
  clear q13_0 q13_1 q13_2 q13_3 q13_4 q13_5 q13_6 q13_7 q13_8 q13_9 q13_10 q13_11 r13_0 r13_1
  obtain ⟨q14_0, q14_1, q14_2, q14_3, q14_4, q14_5, q14_6, q14_7, q14_8, q14_9, q14_10, q14_11⟩ := (HC _ HB.out).out
  clear hb14
  have r14_0 := Nat.lt_of_lt_of_le (show w.heap.size < W.heap.size by have := HWs.out; omega) HB.out.size
  have r14_1 := Nat.lt_of_lt_of_le (show w.heap.size + 1 < W.heap.size by have := HWs.out; omega) HB.out.size
  have HV4 := Lib.hid hv4
  have HE4 := Lib.hid he4
  clear hv4 he4 HV3 HE3
  go_wp2_with fail
  first | refine wp_name (fun W5 hW5 => ?_) | refine calls_name (fun W5 hW5 => ?_)
  have HP5 := fun (W1 : World) (h : Below (w4.heap.size + 1) W5 W1) => Lib.hid (show W1.cell? ⟨w4.heap.size, 0, none⟩ = some (.slice p1 vn d1) ∧ W1.cell? ⟨w4.heap.size, 1, none⟩ = some (.slice p2 en d2) from
    ⟨(h.cell (p := ⟨w4.heap.size, 0, none⟩) (Nat.lt_succ_self _)).trans (by rw [← hW5]; clear hW5; go_simp), (h.cell (p := ⟨w4.heap.size, 1, none⟩) (Nat.lt_succ_self _)).trans (by rw [← hW5]; clear hW5; go_simp)⟩)
  have hb5 : Below w4.heap.size w4 W5 := by rw [← hW5]; exact below_alloc (Below.refl _ _)
  have HS5 : Hid (W5.heap.size = w4.heap.size + 1) := Lib.hid (by rw [← hW5]; simp)
  clear hW5
  have HB5 := Lib.hid hb5
  have HB := Lib.hid (HB.out.trans (hb5.mono HB.out.size))
  clear hb5
  clear q14_0 q14_1 q14_2 q14_3 q14_4 q14_5 q14_6 q14_7 q14_8 q14_9 q14_10 q14_11 r14_0 r14_1
  obtain ⟨q15_0, q15_1, q15_2, q15_3, q15_4, q15_5, q15_6, q15_7, q15_8, q15_9, q15_10, q15_11⟩ := (HC _ HB.out).out
  have r15_0 := Nat.lt_of_lt_of_le (show w.heap.size < W.heap.size by have := HWs.out; omega) HB.out.size
  have r15_1 := Nat.lt_of_lt_of_le (show w.heap.size + 1 < W.heap.size by have := HWs.out; omega) HB.out.size
  refine (planR_any (HS.out.below (HW.out.trans (HB.out.mono HW.out.size))).vs (HS.out.below (HW.out.trans (HB.out.mono HW.out.size))).es (Nat.le_trans HW.out.size HB.out.size) (by omega) (by omega) _ _ _ _ _ _).mono ?_
  rintro e w6 ⟨r1,e1,r2,e2,rfl,hv6,he6,hb16⟩
  have HB := Lib.hid (below_next (below_next HB.out (Nat.le_trans HBW.out HB.out.size) (by repeat (first | exact Below.refl _ _ | refine below_alloc ?_))) (by first | exact (Nat.le_trans HBW.out HB.out.size) | (simp; done) | (have h1 := HBW.out; have h2 := HB.out.size; simp; omega)) hb16)
  clear q15_0 q15_1 q15_2 q15_3 q15_4 q15_5 q15_6 q15_7 q15_8 q15_9 q15_10 q15_11 r15_0 r15_1
  obtain ⟨q16_0, q16_1, q16_2, q16_3, q16_4, q16_5, q16_6, q16_7, q16_8, q16_9, q16_10, q16_11⟩ := (HC _ HB.out).out
  have HB6 := Lib.hid hb16
  clear hb16
  have r16_0 := Nat.lt_of_lt_of_le (show w.heap.size < W.heap.size by have := HWs.out; omega) HB.out.size
  have r16_1 := Nat.lt_of_lt_of_le (show w.heap.size + 1 < W.heap.size by have := HWs.out; omega) HB.out.size
  have HV6 := Lib.hid hv6
  have HE6 := Lib.hid he6
  clear hv6 he6
  obtain ⟨y0, y1⟩ := (HP5 _ (HB6.out.mono (by have := HS5.out; omega))).out
  have y2 : w4.heap.size < w6.heap.size := by have := HS5.out; have := HB6.out.size; omega
  have y3 := Nat.lt_succ_of_lt y2
  go_wp2_with fail
  first | refine wp_name (fun W7 hW7 => ?_) | refine calls_name (fun W7 hW7 => ?_)
  have hb67 : Below w6.heap.size w6 W7 := by rw [← hW7]; exact below_alloc (Below.refl _ _)
  have HP := Lib.hid (show W7.cell? ⟨w6.heap.size, 0, none⟩ = some (.slice r1 vn e1) ∧ W7.cell? ⟨w6.heap.size, 1, none⟩ = some (.slice r2 en e2) from ⟨by rw [← hW7]; clear hW7; go_simp, by rw [← hW7]; clear hW7; go_simp⟩)
  have HS7 : Hid (W7.heap.size = w6.heap.size + 1) := Lib.hid (by rw [← hW7]; simp)
  clear hW7
  have HA := Lib.hid (HP5 _ (HB6.out.mono (by have := HS5.out; omega) |>.trans (hb67.mono y2))).out
  have HVA := Lib.hid ((HV4.out.below (HB5.out.mono (Nat.le_refl _))).below ((HB6.out.trans (hb67.mono HB6.out.size)).mono HB5.out.size))
  have HEA := Lib.hid ((HE4.out.below (HB5.out.mono (Nat.le_refl _))).below ((HB6.out.trans (hb67.mono HB6.out.size)).mono HB5.out.size))
  have HVB := Lib.hid (HV6.out.below hb67)
  have HEB := Lib.hid (HE6.out.below hb67)
  have HB7 := Lib.hid (HB.out.trans (hb67.mono HB.out.size))
  have L4 : w4.heap.size + 1 ≤ w6.heap.size := y2
  clear y0 y1 y2 y3 HP5 HV4 HE4 HV6 HE6 hb67 HB6 HB5 HS5 HB
  clear q16_0 q16_1 q16_2 q16_3 q16_4 q16_5 q16_6 q16_7 q16_8 q16_9 q16_10 q16_11 r16_0 r16_1
  go_loopw [7] (fun v wr => ∃ i : Nat, i ≤ vn ∧ v = .int .i64 i ∧ Below W7.heap.size W7 wr) (fun v _ => vn - (intOf v).toNat)
  case atStart => exact ⟨0, Nat.zero_le _, rfl, Below.refl _ _⟩
  case round =>
    obtain ⟨i, hi, rfl, hb⟩ := hrel
    have HR := Lib.hid hb
    obtain ⟨y0, y1⟩ := HA.out
    obtain ⟨q0, q1⟩ := HP.out
    have s7 := HS7.out
    rw [← hb.cell (p := ⟨_, _, none⟩) (by show w4.heap.size < _; omega)] at y0 y1
    rw [← hb.cell (p := ⟨_, _, none⟩) (by show w6.heap.size < _; omega)] at q0 q1
    have l1 : w4.heap.size < wr.heap.size := by have := hb.size; omega
    have l2 : w6.heap.size < wr.heap.size := by have := hb.size; omega
    clear hb s7
    by_cases hlt : i < vn
    · obtain ⟨b1, o1, x, rfl, hb1, hx, x0, x1, x2⟩ := (HVA.out.below (HR.out.mono (by have := HS7.out; omega))).at_ hlt
      obtain ⟨b2, o2, y, rfl, hb2, hy, z0', z1', z2'⟩ := (HVB.out.below (HR.out.mono (by have := HS7.out; omega))).at_ hlt
      obtain rfl : x = y := by rw [hx] at hy; injection hy
      have k1 : b1 < wr.heap.size := by omega
      have k2 : b2 < wr.heap.size := by omega
      clear hx hy hb1 hb2
      have hne := fun w => neq_of_eql (equal_vx (w := w) x.id x.at_.x x.at_.y x.id x.at_.x x.at_.y)
      simp only [and_self, decide_true, Bool.not_true] at hne
      go_wp2_with fail
      go_quiet (fail)
      go_wp2_with fail
      go_roundw
      case rel => exact ⟨i + 1, by omega, by go_num, below_drewN HR.out _⟩
      case measure => simp [intOf]; omega
    · obtain rfl : vn = i := by omega
      clear hlt
      go_wp2_with fail
      obtain ⟨wo, rfl⟩ : ∃ wo : World, wo = wr := ⟨_, rfl⟩
      clear y0 y1 q0 q1 l1 l2
      go_loopw [8] (fun v wr => ∃ i : Nat, i ≤ en ∧ v = .int .i64 i ∧ Below W7.heap.size W7 wr) (fun v _ => en - (intOf v).toNat)
      case atStart => exact ⟨0, Nat.zero_le _, rfl, HR.out⟩
      case round =>
        clear HR
        obtain ⟨j, hj, rfl, hb⟩ := hrel
        have HR := Lib.hid hb
        obtain ⟨y0, y1⟩ := HA.out
        obtain ⟨q0, q1⟩ := HP.out
        have s7 := HS7.out
        rw [← hb.cell (p := ⟨_, _, none⟩) (by show w4.heap.size < _; omega)] at y0 y1
        rw [← hb.cell (p := ⟨_, _, none⟩) (by show w6.heap.size < _; omega)] at q0 q1
        have l1 : w4.heap.size < wr.heap.size := by have := hb.size; omega
        have l2 : w6.heap.size < wr.heap.size := by have := hb.size; omega
        clear hb s7
        by_cases hlt : j < en
        · obtain ⟨b1, o1, x, rfl, hb1, hx, x0, x1, x2⟩ := (HEA.out.below (HR.out.mono (by have := HS7.out; omega))).at_ hlt
          obtain ⟨b2, o2, y, rfl, hb2, hy, z0', z1', z2'⟩ := (HEB.out.below (HR.out.mono (by have := HS7.out; omega))).at_ hlt
          obtain rfl : x = y := by rw [hx] at hy; injection hy
          have k1 : b1 < wr.heap.size := by omega
          have k2 : b2 < wr.heap.size := by omega
          clear hx hy hb1 hb2
          have hne := fun w => neq_of_eql (equal_ed (w := w) x.id x.a x.b x.id x.a x.b)
          simp only [and_self, decide_true, Bool.not_true] at hne
          go_wp2_with fail
          go_quiet (fail)
          go_wp2_with fail
          go_roundw
          case rel => exact ⟨j + 1, by omega, by go_num, below_drewN HR.out _⟩
          case measure => simp [intOf]; omega
        · obtain rfl : en = j := by omega
          clear hlt
          go_wp2_with fail
          clear y0 y1 q0 q1 l1 l2
          have HBE := Lib.hid (HB7.out.trans (HR.out.mono HB7.out.size))
          have HB := HBE
          obtain ⟨r, hr⟩ : ∃ r, r = decide (s = t) := ⟨_, rfl⟩
          have HK := fun (W1 : World) (hb : Below wr.heap.size wr W1) => Lib.hid (tb_mono ((HS.out.below (HW.out.trans (HB.out.mono HW.out.size))).below (hb.mono (by have := HB.out.size; have := HW.out.size; omega))) (B' := W1.heap.size) (by have := HB.out.size; have := HW.out.size; have := hb.size; omega))
          have HBK := Lib.hid (Below.refl wr.heap.size wr)
          clear HBE HA HP HVA HEA HVB HEB HB7 HR HS7 L4 HF1 HF2 z1 z2
          have J1 := trivial
          have J2 := trivial
          have J3 := trivial
          have J4 := trivial
          go_region_held3 (fun w' => w'.cell? ⟨w.heap.size, 0, none⟩ = some (.int .i64 s.lv) ∧ w'.cell? ⟨w.heap.size, 1, none⟩ = some (.int .i64 s.le) ∧ w'.cell? ⟨w.heap.size, 2, none⟩ = some (.int .i64 s.lf) ∧ w'.cell? ⟨w.heap.size, 3, none⟩ = some (.slice va vn vc) ∧ w'.cell? ⟨w.heap.size, 4, none⟩ = some (.slice ea en ec) ∧ w'.cell? ⟨w.heap.size, 5, none⟩ = some (.slice fa fn fc) ∧ w'.cell? ⟨w.heap.size + 1, 0, none⟩ = some (.int .i64 t.lv) ∧ w'.cell? ⟨w.heap.size + 1, 1, none⟩ = some (.int .i64 t.le) ∧ w'.cell? ⟨w.heap.size + 1, 2, none⟩ = some (.int .i64 t.lf) ∧ w'.cell? ⟨w.heap.size + 1, 3, none⟩ = some (.slice vb vm vd) ∧ w'.cell? ⟨w.heap.size + 1, 4, none⟩ = some (.slice eb em ed) ∧ w'.cell? ⟨w.heap.size + 1, 5, none⟩ = some (.slice fb fm fd))
            (first | with_reducible exact (HC _ HB.out.drew).out | with_reducible exact (HC _ HB.out).out)
            (first
              | (go_at_call 28; refine (awake18_any _).mono ?_; rintro e w8 ⟨rfl, hb8⟩; have HBK := Lib.hid (show Below _ _ w8 from by first | exact HBK.out.trans (hb8.mono HBK.out.size) | exact HBK.out.drew.trans (hb8.mono HBK.out.size)); have HB := Lib.hid (show Below W.heap.size W w8 from by first | exact HB.out.trans (hb8.mono HB.out.size) | exact HB.out.drew.trans (hb8.mono HB.out.size)); clear hb8)
              | (go_at_call 33; first | (clear J1; refine (conv_any (t := s) (HS.out.below (by first | exact HW.out.trans (HB.out.mono HW.out.size) | exact HW.out.trans (HB.out.drew.mono HW.out.size))) (by have := HB.out.size; have := HW.out.size; first | omega | (simp; omega)) (by omega) (by omega)).mono ?_; rintro e w8 ⟨a1, c1, a2, c2, rfl, hv8, he8, hb8⟩; have HBK := Lib.hid (show Below _ _ w8 from by first | exact HBK.out.trans (hb8.mono HBK.out.size) | exact HBK.out.drew.trans (hb8.mono HBK.out.size)); have HK0 := HK; have HBK0 := HBK; have HB := Lib.hid (show Below W.heap.size W w8 from by first | exact HB.out.trans (hb8.mono HB.out.size) | exact HB.out.drew.trans (hb8.mono HB.out.size)); have HK := fun (W1 : World) (hb : Below w8.heap.size w8 W1) => Lib.hid (tb_of HS.out (HW.out.trans (HB.out.mono HW.out.size)) (Nat.le_trans HW.out.size HB.out.size) hv8 he8 hb); have HBK := Lib.hid (Below.refl w8.heap.size w8); clear hb8) | (clear J2; refine (conv_any (t := t) (HT.out.below (by first | exact HW.out.trans (HB.out.mono HW.out.size) | exact HW.out.trans (HB.out.drew.mono HW.out.size))) (by have := HB.out.size; have := HW.out.size; first | omega | (simp; omega)) (by omega) (by omega)).mono ?_; rintro e w8 ⟨a1, c1, a2, c2, rfl, hv8, he8, hb8⟩; have HBK := Lib.hid (show Below _ _ w8 from by first | exact HBK.out.trans (hb8.mono HBK.out.size) | exact HBK.out.drew.trans (hb8.mono HBK.out.size)); have HK0 := HK; have HBK0 := HBK; have HB := Lib.hid (show Below W.heap.size W w8 from by first | exact HB.out.trans (hb8.mono HB.out.size) | exact HB.out.drew.trans (hb8.mono HB.out.size)); have HK := fun (W1 : World) (hb : Below w8.heap.size w8 W1) => Lib.hid (tb_of HT.out (HW.out.trans (HB.out.mono HW.out.size)) (Nat.le_trans HW.out.size HB.out.size) hv8 he8 hb); have HBK := Lib.hid (Below.refl w8.heap.size w8); clear hb8) | (clear J3; refine (conv_any (t := s) (HS.out.below (by first | exact HW.out.trans (HB.out.mono HW.out.size) | exact HW.out.trans (HB.out.drew.mono HW.out.size))) (by have := HB.out.size; have := HW.out.size; first | omega | (simp; omega)) (by omega) (by omega)).mono ?_; rintro e w8 ⟨a1, c1, a2, c2, rfl, hv8, he8, hb8⟩; have HBK := Lib.hid (show Below _ _ w8 from by first | exact HBK.out.trans (hb8.mono HBK.out.size) | exact HBK.out.drew.trans (hb8.mono HBK.out.size)); have HK0 := HK; have HBK0 := HBK; have HB := Lib.hid (show Below W.heap.size W w8 from by first | exact HB.out.trans (hb8.mono HB.out.size) | exact HB.out.drew.trans (hb8.mono HB.out.size)); have HK := fun (W1 : World) (hb : Below w8.heap.size w8 W1) => Lib.hid (tb_of HS.out (HW.out.trans (HB.out.mono HW.out.size)) (Nat.le_trans HW.out.size HB.out.size) hv8 he8 hb); have HBK := Lib.hid (Below.refl w8.heap.size w8); clear hb8) | (clear J4; refine (conv_any (t := s) (HS.out.below (by first | exact HW.out.trans (HB.out.mono HW.out.size) | exact HW.out.trans (HB.out.drew.mono HW.out.size))) (by have := HB.out.size; have := HW.out.size; first | omega | (simp; omega)) (by omega) (by omega)).mono ?_; rintro e w8 ⟨a1, c1, a2, c2, rfl, hv8, he8, hb8⟩; have HBK := Lib.hid (show Below _ _ w8 from by first | exact HBK.out.trans (hb8.mono HBK.out.size) | exact HBK.out.drew.trans (hb8.mono HBK.out.size)); have HK0 := HK; have HBK0 := HBK; have HB := Lib.hid (show Below W.heap.size W w8 from by first | exact HB.out.trans (hb8.mono HB.out.size) | exact HB.out.drew.trans (hb8.mono HB.out.size)); have HK := fun (W1 : World) (hb : Below w8.heap.size w8 W1) => Lib.hid (tb_of HS.out (HW.out.trans (HB.out.mono HW.out.size)) (Nat.le_trans HW.out.size HB.out.size) hv8 he8 hb); have HBK := Lib.hid (Below.refl w8.heap.size w8); clear hb8))
              | (go_at_call 35; refine (sameA_any (HK0 _ (by first | exact HBK0.out | exact HBK0.out.drew)).out (HK _ (by first | exact HBK.out | exact HBK.out.drew)).out (Nat.le_refl _) (by omega) (by omega) (by omega) (by omega) (by omega) (by omega)).mono ?_; rintro e w8 ⟨he8, hb8⟩; (first | rw [← hr] at he8 | rw [show decide (s = s) = true from decide_eq_true rfl] at he8); subst he8; have HBK := Lib.hid (show Below _ _ w8 from by first | exact HBK.out.trans (hb8.mono HBK.out.size) | exact HBK.out.drew.trans (hb8.mono HBK.out.size)); have HB := Lib.hid (show Below W.heap.size W w8 from by first | exact HB.out.trans (hb8.mono HB.out.size) | exact HB.out.drew.trans (hb8.mono HB.out.size)); clear hb8)
              | (go_at_call 36; refine (sameR_any (HS.out.below (by first | exact HW.out.trans (HB.out.mono HW.out.size) | exact HW.out.trans (HB.out.drew.mono HW.out.size))) (HT.out.below (by first | exact HW.out.trans (HB.out.mono HW.out.size) | exact HW.out.trans (HB.out.drew.mono HW.out.size))) (by have := HB.out.size; have := HW.out.size; first | omega | (simp; omega)) (by omega) (by omega) (by omega) (by omega) (by omega) (by omega)).mono ?_; rintro e w8 ⟨he8, hb8⟩; rw [← hr] at he8; subst he8; have HBK := Lib.hid (show Below _ _ w8 from by first | exact HBK.out.trans (hb8.mono HBK.out.size) | exact HBK.out.drew.trans (hb8.mono HBK.out.size)); have HB := Lib.hid (show Below W.heap.size W w8 from by first | exact HB.out.trans (hb8.mono HB.out.size) | exact HB.out.drew.trans (hb8.mono HB.out.size)); clear hb8))
          go_wp2_with fail
          go_ret
          exact ⟨by simp, HW.out.trans (HB.out.mono HW.out.size)⟩
end Go.Proofs.Ythopjhifepijiaa
