/- The walk of audit.Same. -/
import Derived.Test.YthopjhifepijiaaEqual2
namespace Go.Proofs.Ythopjhifepijiaa
open Go.RowKit
set_option linter.unusedVariables false
/-- A table. -/
structure TB where
  lv : Int
  le : Int
  lf : Int
  vs : List VR
  es : List ER
  fs : List FR
deriving DecidableEq
structure TbIn (w : World) (B : Nat) (va ea fa : Option Addr) (vn en fn : Nat) (t : TB) : Prop where
  vs : VRIn w B va vn t.vs
  es : ERIn w B ea en t.es
  fs : FRIn w B fa fn t.fs
theorem TbIn.below {w w' : World} {B : Nat} {va ea fa : Option Addr} {vn en fn : Nat} {t : TB} (h : TbIn w B va ea fa vn en fn t) (hb : Below B w w') : TbIn w' B va ea fa vn en fn t := ⟨h.vs.below hb, h.es.below hb, h.fs.below hb⟩
set_option maxRecDepth 100000 in
set_option maxHeartbeats 4000000 in
theorem sameA_any {w : World} {B vn en fn vm em fm vc ec fc vd ed fd : Nat} {va ea fa vb eb fb : Option Addr} {s t : TB} (hs : TbIn w B va ea fa vn en fn s) (ht : TbIn w B vb eb fb vm em fm t) (hB : B ≤ w.heap.size)
    (n1 : vn ≤ 100000) (n2 : en ≤ 100000) (n3 : fn ≤ 100000) (n4 : vm ≤ 100000) (n5 : em ≤ 100000) (n6 : fm ≤ 100000) :
    Calls Try.prog 35 #[.agg #[.int .i64 s.lv, .int .i64 s.le, .int .i64 s.lf, .slice va vn vc, .slice ea en ec, .slice fa fn fc], .agg #[.int .i64 t.lv, .int .i64 t.le, .int .i64 t.lf, .slice vb vm vd, .slice eb em ed, .slice fb fm fd]] w fun e w' => e = .returned (.bool (decide (s = t))) ∧ Below w.heap.size w w' := by
  have HS := Lib.hid hs
  have HT := Lib.hid ht
  clear hs ht
  obtain ⟨r, hr⟩ : ∃ r, r = decide (s = t) := ⟨_, rfl⟩
  rw [← hr]
  have hc : (r = false ∧ (s.lv == t.lv) = false) ∨ (r = false ∧ (s.lv == t.lv) = true ∧ (s.le == t.le) = false) ∨ (r = false ∧ (s.lv == t.lv) = true ∧ (s.le == t.le) = true ∧ (s.lf == t.lf) = false) ∨
      ((s.lv == t.lv) = true ∧ (s.le == t.le) = true ∧ (s.lf == t.lf) = true ∧ r = (decide (s.vs = t.vs) && (decide (s.es = t.es) && decide (s.fs = t.fs)))) := by
    rw [hr]
    obtain ⟨a, b, c, d, e, f⟩ := s
    obtain ⟨a', b', c', d', e', f'⟩ := t
    simp only [TB.mk.injEq, beq_iff_eq, beq_eq_false_iff_ne, decide_eq_false_iff_not]
    by_cases h1 : a = a'
    · by_cases h2 : b = b'
      · by_cases h3 : c = c'
        · exact .inr (.inr (.inr ⟨h1, h2, h3, by simp [h1, h2, h3]⟩))
        · exact .inr (.inr (.inl ⟨fun h => h3 h.2.2.1, h1, h2, h3⟩))
      · exact .inr (.inl ⟨fun h => h2 h.2.1, h1, h2⟩)
    · exact .inl ⟨fun h => h1 h.1, h1⟩
  clear hr
  rcases hc with ⟨rfl, q1⟩ | ⟨rfl, q1, q2⟩ | ⟨rfl, q1, q2, q3⟩ | ⟨q1, q2, q3, hr⟩
  · go_enter Try.func35, Try.ntmps35
    go_wp2_with fail
    go_ret
    exact ⟨rfl, below_alloc (below_alloc (Below.refl _ _))⟩
  · go_enter Try.func35, Try.ntmps35
    go_wp2_with fail
    go_ret
    exact ⟨rfl, below_alloc (below_alloc (Below.refl _ _))⟩
  · go_enter Try.func35, Try.ntmps35
    go_wp2_with fail
    go_ret
    exact ⟨rfl, below_alloc (below_alloc (Below.refl _ _))⟩
  · have HV := fun (W1 : World) (h : Below w.heap.size w W1) => Lib.hid (eqV_any (c := vc) (d := vd) (HS.out.vs.below (h.mono hB)) (HT.out.vs.below (h.mono hB)) (Nat.le_trans hB h.size) n1 n4)
    have HE := fun (W1 : World) (h : Below w.heap.size w W1) => Lib.hid (eqE_any (c := ec) (d := ed) (HS.out.es.below (h.mono hB)) (HT.out.es.below (h.mono hB)) (Nat.le_trans hB h.size) n2 n5)
    have HF := fun (W1 : World) (h : Below w.heap.size w W1) => Lib.hid (eqF_any (c := fc) (d := fd) (HS.out.fs.below (h.mono hB)) (HT.out.fs.below (h.mono hB)) (Nat.le_trans hB h.size) n3 n6)
    rw [hr]
    clear hr
    generalize decide (s.vs = t.vs) = d1 at *
    generalize decide (s.es = t.es) = d2 at *
    generalize decide (s.fs = t.fs) = d3 at *
    cases d1
    · go_enter Try.func35, Try.ntmps35
      go_wp2_with fail
      first | refine wp_name (fun W hW => ?_) | refine calls_name (fun W hW => ?_)
      have HW : Hid (Below w.heap.size w W) := Lib.hid (by rw [← hW]; repeat (first | exact Below.refl _ _ | refine below_alloc ?_))
      have HWs : Hid (W.heap.size = w.heap.size + 1 + 1) := Lib.hid (by rw [← hW]; simp)
      have HBW : Hid (W.heap.size ≤ W.heap.size) := Lib.hid (by have := HWs.out; omega)
      have HC := fun (W1 : World) (hb : Below (W.heap.size) W W1) => Lib.hid (show W1.cell? ⟨w.heap.size, 0, none⟩ = some (.int .i64 s.lv) ∧ W1.cell? ⟨w.heap.size, 1, none⟩ = some (.int .i64 s.le) ∧ W1.cell? ⟨w.heap.size, 2, none⟩ = some (.int .i64 s.lf) ∧ W1.cell? ⟨w.heap.size, 3, none⟩ = some (.slice va vn vc) ∧ W1.cell? ⟨w.heap.size, 4, none⟩ = some (.slice ea en ec) ∧ W1.cell? ⟨w.heap.size, 5, none⟩ = some (.slice fa fn fc) ∧ W1.cell? ⟨w.heap.size + 1, 0, none⟩ = some (.int .i64 t.lv) ∧ W1.cell? ⟨w.heap.size + 1, 1, none⟩ = some (.int .i64 t.le) ∧ W1.cell? ⟨w.heap.size + 1, 2, none⟩ = some (.int .i64 t.lf) ∧ W1.cell? ⟨w.heap.size + 1, 3, none⟩ = some (.slice vb vm vd) ∧ W1.cell? ⟨w.heap.size + 1, 4, none⟩ = some (.slice eb em ed) ∧ W1.cell? ⟨w.heap.size + 1, 5, none⟩ = some (.slice fb fm fd) from by exact ⟨(hb.cell (p := ⟨w.heap.size, 0, none⟩) (by show w.heap.size < W.heap.size; have := HWs.out; omega)).trans (by rw [← hW]; clear hW; go_simp), (hb.cell (p := ⟨w.heap.size, 1, none⟩) (by show w.heap.size < W.heap.size; have := HWs.out; omega)).trans (by rw [← hW]; clear hW; go_simp), (hb.cell (p := ⟨w.heap.size, 2, none⟩) (by show w.heap.size < W.heap.size; have := HWs.out; omega)).trans (by rw [← hW]; clear hW; go_simp), (hb.cell (p := ⟨w.heap.size, 3, none⟩) (by show w.heap.size < W.heap.size; have := HWs.out; omega)).trans (by rw [← hW]; clear hW; go_simp), (hb.cell (p := ⟨w.heap.size, 4, none⟩) (by show w.heap.size < W.heap.size; have := HWs.out; omega)).trans (by rw [← hW]; clear hW; go_simp), (hb.cell (p := ⟨w.heap.size, 5, none⟩) (by show w.heap.size < W.heap.size; have := HWs.out; omega)).trans (by rw [← hW]; clear hW; go_simp), (hb.cell (p := ⟨w.heap.size + 1, 0, none⟩) (by show w.heap.size + 1 < W.heap.size; have := HWs.out; omega)).trans (by rw [← hW]; clear hW; go_simp), (hb.cell (p := ⟨w.heap.size + 1, 1, none⟩) (by show w.heap.size + 1 < W.heap.size; have := HWs.out; omega)).trans (by rw [← hW]; clear hW; go_simp), (hb.cell (p := ⟨w.heap.size + 1, 2, none⟩) (by show w.heap.size + 1 < W.heap.size; have := HWs.out; omega)).trans (by rw [← hW]; clear hW; go_simp), (hb.cell (p := ⟨w.heap.size + 1, 3, none⟩) (by show w.heap.size + 1 < W.heap.size; have := HWs.out; omega)).trans (by rw [← hW]; clear hW; go_simp), (hb.cell (p := ⟨w.heap.size + 1, 4, none⟩) (by show w.heap.size + 1 < W.heap.size; have := HWs.out; omega)).trans (by rw [← hW]; clear hW; go_simp), (hb.cell (p := ⟨w.heap.size + 1, 5, none⟩) (by show w.heap.size + 1 < W.heap.size; have := HWs.out; omega)).trans (by rw [← hW]; clear hW; go_simp)⟩)
      have HB := Lib.hid (Below.refl (W.heap.size) W)
      clear hW
      obtain ⟨q1_0, q1_1, q1_2, q1_3, q1_4, q1_5, q1_6, q1_7, q1_8, q1_9, q1_10, q1_11⟩ := (HC _ HB.out).out
      have r1_0 := Nat.lt_of_lt_of_le (show w.heap.size < W.heap.size by have := HWs.out; omega) HB.out.size
      have r1_1 := Nat.lt_of_lt_of_le (show w.heap.size + 1 < W.heap.size by have := HWs.out; omega) HB.out.size
      refine ((HV _ HW.out).out).mono ?_
      rintro e w2 ⟨rfl, hb2⟩
      have HB := Lib.hid (below_next (below_next HB.out (Nat.le_trans HBW.out HB.out.size) (by repeat (first | exact Below.refl _ _ | refine below_alloc ?_))) (by first | exact (Nat.le_trans HBW.out HB.out.size) | (simp; done) | (have h1 := HBW.out; have h2 := HB.out.size; simp; omega)) hb2)
      clear q1_0 q1_1 q1_2 q1_3 q1_4 q1_5 q1_6 q1_7 q1_8 q1_9 q1_10 q1_11 r1_0 r1_1
      obtain ⟨q2_0, q2_1, q2_2, q2_3, q2_4, q2_5, q2_6, q2_7, q2_8, q2_9, q2_10, q2_11⟩ := (HC _ HB.out).out
      clear hb2
      have r2_0 := Nat.lt_of_lt_of_le (show w.heap.size < W.heap.size by have := HWs.out; omega) HB.out.size
      have r2_1 := Nat.lt_of_lt_of_le (show w.heap.size + 1 < W.heap.size by have := HWs.out; omega) HB.out.size
      go_wp2_with fail
      go_ret
      exact ⟨rfl, (HW.out.trans (HB.out.mono (by have := HWs.out; omega)))⟩
    · cases d2
      · go_enter Try.func35, Try.ntmps35
        go_wp2_with fail
        first | refine wp_name (fun W hW => ?_) | refine calls_name (fun W hW => ?_)
        have HW : Hid (Below w.heap.size w W) := Lib.hid (by rw [← hW]; repeat (first | exact Below.refl _ _ | refine below_alloc ?_))
        have HWs : Hid (W.heap.size = w.heap.size + 1 + 1) := Lib.hid (by rw [← hW]; simp)
        have HBW : Hid (W.heap.size ≤ W.heap.size) := Lib.hid (by have := HWs.out; omega)
        have HC := fun (W1 : World) (hb : Below (W.heap.size) W W1) => Lib.hid (show W1.cell? ⟨w.heap.size, 0, none⟩ = some (.int .i64 s.lv) ∧ W1.cell? ⟨w.heap.size, 1, none⟩ = some (.int .i64 s.le) ∧ W1.cell? ⟨w.heap.size, 2, none⟩ = some (.int .i64 s.lf) ∧ W1.cell? ⟨w.heap.size, 3, none⟩ = some (.slice va vn vc) ∧ W1.cell? ⟨w.heap.size, 4, none⟩ = some (.slice ea en ec) ∧ W1.cell? ⟨w.heap.size, 5, none⟩ = some (.slice fa fn fc) ∧ W1.cell? ⟨w.heap.size + 1, 0, none⟩ = some (.int .i64 t.lv) ∧ W1.cell? ⟨w.heap.size + 1, 1, none⟩ = some (.int .i64 t.le) ∧ W1.cell? ⟨w.heap.size + 1, 2, none⟩ = some (.int .i64 t.lf) ∧ W1.cell? ⟨w.heap.size + 1, 3, none⟩ = some (.slice vb vm vd) ∧ W1.cell? ⟨w.heap.size + 1, 4, none⟩ = some (.slice eb em ed) ∧ W1.cell? ⟨w.heap.size + 1, 5, none⟩ = some (.slice fb fm fd) from by exact ⟨(hb.cell (p := ⟨w.heap.size, 0, none⟩) (by show w.heap.size < W.heap.size; have := HWs.out; omega)).trans (by rw [← hW]; clear hW; go_simp), (hb.cell (p := ⟨w.heap.size, 1, none⟩) (by show w.heap.size < W.heap.size; have := HWs.out; omega)).trans (by rw [← hW]; clear hW; go_simp), (hb.cell (p := ⟨w.heap.size, 2, none⟩) (by show w.heap.size < W.heap.size; have := HWs.out; omega)).trans (by rw [← hW]; clear hW; go_simp), (hb.cell (p := ⟨w.heap.size, 3, none⟩) (by show w.heap.size < W.heap.size; have := HWs.out; omega)).trans (by rw [← hW]; clear hW; go_simp), (hb.cell (p := ⟨w.heap.size, 4, none⟩) (by show w.heap.size < W.heap.size; have := HWs.out; omega)).trans (by rw [← hW]; clear hW; go_simp), (hb.cell (p := ⟨w.heap.size, 5, none⟩) (by show w.heap.size < W.heap.size; have := HWs.out; omega)).trans (by rw [← hW]; clear hW; go_simp), (hb.cell (p := ⟨w.heap.size + 1, 0, none⟩) (by show w.heap.size + 1 < W.heap.size; have := HWs.out; omega)).trans (by rw [← hW]; clear hW; go_simp), (hb.cell (p := ⟨w.heap.size + 1, 1, none⟩) (by show w.heap.size + 1 < W.heap.size; have := HWs.out; omega)).trans (by rw [← hW]; clear hW; go_simp), (hb.cell (p := ⟨w.heap.size + 1, 2, none⟩) (by show w.heap.size + 1 < W.heap.size; have := HWs.out; omega)).trans (by rw [← hW]; clear hW; go_simp), (hb.cell (p := ⟨w.heap.size + 1, 3, none⟩) (by show w.heap.size + 1 < W.heap.size; have := HWs.out; omega)).trans (by rw [← hW]; clear hW; go_simp), (hb.cell (p := ⟨w.heap.size + 1, 4, none⟩) (by show w.heap.size + 1 < W.heap.size; have := HWs.out; omega)).trans (by rw [← hW]; clear hW; go_simp), (hb.cell (p := ⟨w.heap.size + 1, 5, none⟩) (by show w.heap.size + 1 < W.heap.size; have := HWs.out; omega)).trans (by rw [← hW]; clear hW; go_simp)⟩)
        have HB := Lib.hid (Below.refl (W.heap.size) W)
        clear hW
        obtain ⟨q4_0, q4_1, q4_2, q4_3, q4_4, q4_5, q4_6, q4_7, q4_8, q4_9, q4_10, q4_11⟩ := (HC _ HB.out).out
        have r4_0 := Nat.lt_of_lt_of_le (show w.heap.size < W.heap.size by have := HWs.out; omega) HB.out.size
        have r4_1 := Nat.lt_of_lt_of_le (show w.heap.size + 1 < W.heap.size by have := HWs.out; omega) HB.out.size
        refine ((HV _ HW.out).out).mono ?_
        rintro e w5 ⟨rfl, hb5⟩
        have HB := Lib.hid (below_next (below_next HB.out (Nat.le_trans HBW.out HB.out.size) (by repeat (first | exact Below.refl _ _ | refine below_alloc ?_))) (by first | exact (Nat.le_trans HBW.out HB.out.size) | (simp; done) | (have h1 := HBW.out; have h2 := HB.out.size; simp; omega)) hb5)
        clear q4_0 q4_1 q4_2 q4_3 q4_4 q4_5 q4_6 q4_7 q4_8 q4_9 q4_10 q4_11 r4_0 r4_1
        obtain ⟨q5_0, q5_1, q5_2, q5_3, q5_4, q5_5, q5_6, q5_7, q5_8, q5_9, q5_10, q5_11⟩ := (HC _ HB.out).out
        clear hb5
        have r5_0 := Nat.lt_of_lt_of_le (show w.heap.size < W.heap.size by have := HWs.out; omega) HB.out.size
        have r5_1 := Nat.lt_of_lt_of_le (show w.heap.size + 1 < W.heap.size by have := HWs.out; omega) HB.out.size
        go_wp2_with fail
        refine ((HE _ (HW.out.trans (HB.out.mono HW.out.size))).out).mono ?_
        rintro e w6 ⟨rfl, hb6⟩
        have HB := Lib.hid (below_next (below_next HB.out (Nat.le_trans HBW.out HB.out.size) (by repeat (first | exact Below.refl _ _ | refine below_alloc ?_))) (by first | exact (Nat.le_trans HBW.out HB.out.size) | (simp; done) | (have h1 := HBW.out; have h2 := HB.out.size; simp; omega)) hb6)
        clear q5_0 q5_1 q5_2 q5_3 q5_4 q5_5 q5_6 q5_7 q5_8 q5_9 q5_10 q5_11 r5_0 r5_1
        obtain ⟨q6_0, q6_1, q6_2, q6_3, q6_4, q6_5, q6_6, q6_7, q6_8, q6_9, q6_10, q6_11⟩ := (HC _ HB.out).out
        clear hb6
        have r6_0 := Nat.lt_of_lt_of_le (show w.heap.size < W.heap.size by have := HWs.out; omega) HB.out.size
        have r6_1 := Nat.lt_of_lt_of_le (show w.heap.size + 1 < W.heap.size by have := HWs.out; omega) HB.out.size
        go_wp2_with fail
        go_ret
        exact ⟨rfl, (HW.out.trans (HB.out.mono (by have := HWs.out; omega)))⟩
      · cases d3
        · go_enter Try.func35, Try.ntmps35
          go_wp2_with fail
          first | refine wp_name (fun W hW => ?_) | refine calls_name (fun W hW => ?_)
          have HW : Hid (Below w.heap.size w W) := Lib.hid (by rw [← hW]; repeat (first | exact Below.refl _ _ | refine below_alloc ?_))
          have HWs : Hid (W.heap.size = w.heap.size + 1 + 1) := Lib.hid (by rw [← hW]; simp)
          have HBW : Hid (W.heap.size ≤ W.heap.size) := Lib.hid (by have := HWs.out; omega)
          have HC := fun (W1 : World) (hb : Below (W.heap.size) W W1) => Lib.hid (show W1.cell? ⟨w.heap.size, 0, none⟩ = some (.int .i64 s.lv) ∧ W1.cell? ⟨w.heap.size, 1, none⟩ = some (.int .i64 s.le) ∧ W1.cell? ⟨w.heap.size, 2, none⟩ = some (.int .i64 s.lf) ∧ W1.cell? ⟨w.heap.size, 3, none⟩ = some (.slice va vn vc) ∧ W1.cell? ⟨w.heap.size, 4, none⟩ = some (.slice ea en ec) ∧ W1.cell? ⟨w.heap.size, 5, none⟩ = some (.slice fa fn fc) ∧ W1.cell? ⟨w.heap.size + 1, 0, none⟩ = some (.int .i64 t.lv) ∧ W1.cell? ⟨w.heap.size + 1, 1, none⟩ = some (.int .i64 t.le) ∧ W1.cell? ⟨w.heap.size + 1, 2, none⟩ = some (.int .i64 t.lf) ∧ W1.cell? ⟨w.heap.size + 1, 3, none⟩ = some (.slice vb vm vd) ∧ W1.cell? ⟨w.heap.size + 1, 4, none⟩ = some (.slice eb em ed) ∧ W1.cell? ⟨w.heap.size + 1, 5, none⟩ = some (.slice fb fm fd) from by exact ⟨(hb.cell (p := ⟨w.heap.size, 0, none⟩) (by show w.heap.size < W.heap.size; have := HWs.out; omega)).trans (by rw [← hW]; clear hW; go_simp), (hb.cell (p := ⟨w.heap.size, 1, none⟩) (by show w.heap.size < W.heap.size; have := HWs.out; omega)).trans (by rw [← hW]; clear hW; go_simp), (hb.cell (p := ⟨w.heap.size, 2, none⟩) (by show w.heap.size < W.heap.size; have := HWs.out; omega)).trans (by rw [← hW]; clear hW; go_simp), (hb.cell (p := ⟨w.heap.size, 3, none⟩) (by show w.heap.size < W.heap.size; have := HWs.out; omega)).trans (by rw [← hW]; clear hW; go_simp), (hb.cell (p := ⟨w.heap.size, 4, none⟩) (by show w.heap.size < W.heap.size; have := HWs.out; omega)).trans (by rw [← hW]; clear hW; go_simp), (hb.cell (p := ⟨w.heap.size, 5, none⟩) (by show w.heap.size < W.heap.size; have := HWs.out; omega)).trans (by rw [← hW]; clear hW; go_simp), (hb.cell (p := ⟨w.heap.size + 1, 0, none⟩) (by show w.heap.size + 1 < W.heap.size; have := HWs.out; omega)).trans (by rw [← hW]; clear hW; go_simp), (hb.cell (p := ⟨w.heap.size + 1, 1, none⟩) (by show w.heap.size + 1 < W.heap.size; have := HWs.out; omega)).trans (by rw [← hW]; clear hW; go_simp), (hb.cell (p := ⟨w.heap.size + 1, 2, none⟩) (by show w.heap.size + 1 < W.heap.size; have := HWs.out; omega)).trans (by rw [← hW]; clear hW; go_simp), (hb.cell (p := ⟨w.heap.size + 1, 3, none⟩) (by show w.heap.size + 1 < W.heap.size; have := HWs.out; omega)).trans (by rw [← hW]; clear hW; go_simp), (hb.cell (p := ⟨w.heap.size + 1, 4, none⟩) (by show w.heap.size + 1 < W.heap.size; have := HWs.out; omega)).trans (by rw [← hW]; clear hW; go_simp), (hb.cell (p := ⟨w.heap.size + 1, 5, none⟩) (by show w.heap.size + 1 < W.heap.size; have := HWs.out; omega)).trans (by rw [← hW]; clear hW; go_simp)⟩)
          have HB := Lib.hid (Below.refl (W.heap.size) W)
          clear hW
          obtain ⟨q8_0, q8_1, q8_2, q8_3, q8_4, q8_5, q8_6, q8_7, q8_8, q8_9, q8_10, q8_11⟩ := (HC _ HB.out).out
          have r8_0 := Nat.lt_of_lt_of_le (show w.heap.size < W.heap.size by have := HWs.out; omega) HB.out.size
          have r8_1 := Nat.lt_of_lt_of_le (show w.heap.size + 1 < W.heap.size by have := HWs.out; omega) HB.out.size
          refine ((HV _ HW.out).out).mono ?_
          rintro e w9 ⟨rfl, hb9⟩
          have HB := Lib.hid (below_next (below_next HB.out (Nat.le_trans HBW.out HB.out.size) (by repeat (first | exact Below.refl _ _ | refine below_alloc ?_))) (by first | exact (Nat.le_trans HBW.out HB.out.size) | (simp; done) | (have h1 := HBW.out; have h2 := HB.out.size; simp; omega)) hb9)
          clear q8_0 q8_1 q8_2 q8_3 q8_4 q8_5 q8_6 q8_7 q8_8 q8_9 q8_10 q8_11 r8_0 r8_1
          obtain ⟨q9_0, q9_1, q9_2, q9_3, q9_4, q9_5, q9_6, q9_7, q9_8, q9_9, q9_10, q9_11⟩ := (HC _ HB.out).out
          clear hb9
          have r9_0 := Nat.lt_of_lt_of_le (show w.heap.size < W.heap.size by have := HWs.out; omega) HB.out.size
          have r9_1 := Nat.lt_of_lt_of_le (show w.heap.size + 1 < W.heap.size by have := HWs.out; omega) HB.out.size
          go_wp2_with fail
          refine ((HE _ (HW.out.trans (HB.out.mono HW.out.size))).out).mono ?_
          rintro e w10 ⟨rfl, hb10⟩
          have HB := Lib.hid (below_next (below_next HB.out (Nat.le_trans HBW.out HB.out.size) (by repeat (first | exact Below.refl _ _ | refine below_alloc ?_))) (by first | exact (Nat.le_trans HBW.out HB.out.size) | (simp; done) | (have h1 := HBW.out; have h2 := HB.out.size; simp; omega)) hb10)
          clear q9_0 q9_1 q9_2 q9_3 q9_4 q9_5 q9_6 q9_7 q9_8 q9_9 q9_10 q9_11 r9_0 r9_1
          obtain ⟨q10_0, q10_1, q10_2, q10_3, q10_4, q10_5, q10_6, q10_7, q10_8, q10_9, q10_10, q10_11⟩ := (HC _ HB.out).out
          clear hb10
          have r10_0 := Nat.lt_of_lt_of_le (show w.heap.size < W.heap.size by have := HWs.out; omega) HB.out.size
          have r10_1 := Nat.lt_of_lt_of_le (show w.heap.size + 1 < W.heap.size by have := HWs.out; omega) HB.out.size
          go_wp2_with fail
          refine ((HF _ (HW.out.trans (HB.out.mono HW.out.size))).out).mono ?_
          rintro e w11 ⟨rfl, hb11⟩
          have HB := Lib.hid (below_next (below_next HB.out (Nat.le_trans HBW.out HB.out.size) (by repeat (first | exact Below.refl _ _ | refine below_alloc ?_))) (by first | exact (Nat.le_trans HBW.out HB.out.size) | (simp; done) | (have h1 := HBW.out; have h2 := HB.out.size; simp; omega)) hb11)
          clear q10_0 q10_1 q10_2 q10_3 q10_4 q10_5 q10_6 q10_7 q10_8 q10_9 q10_10 q10_11 r10_0 r10_1
          obtain ⟨q11_0, q11_1, q11_2, q11_3, q11_4, q11_5, q11_6, q11_7, q11_8, q11_9, q11_10, q11_11⟩ := (HC _ HB.out).out
          clear hb11
          have r11_0 := Nat.lt_of_lt_of_le (show w.heap.size < W.heap.size by have := HWs.out; omega) HB.out.size
          have r11_1 := Nat.lt_of_lt_of_le (show w.heap.size + 1 < W.heap.size by have := HWs.out; omega) HB.out.size
          go_wp2_with fail
          go_ret
          exact ⟨rfl, (HW.out.trans (HB.out.mono (by have := HWs.out; omega)))⟩
        · go_enter Try.func35, Try.ntmps35
          go_wp2_with fail
          first | refine wp_name (fun W hW => ?_) | refine calls_name (fun W hW => ?_)
          have HW : Hid (Below w.heap.size w W) := Lib.hid (by rw [← hW]; repeat (first | exact Below.refl _ _ | refine below_alloc ?_))
          have HWs : Hid (W.heap.size = w.heap.size + 1 + 1) := Lib.hid (by rw [← hW]; simp)
          have HBW : Hid (W.heap.size ≤ W.heap.size) := Lib.hid (by have := HWs.out; omega)
          have HC := fun (W1 : World) (hb : Below (W.heap.size) W W1) => Lib.hid (show W1.cell? ⟨w.heap.size, 0, none⟩ = some (.int .i64 s.lv) ∧ W1.cell? ⟨w.heap.size, 1, none⟩ = some (.int .i64 s.le) ∧ W1.cell? ⟨w.heap.size, 2, none⟩ = some (.int .i64 s.lf) ∧ W1.cell? ⟨w.heap.size, 3, none⟩ = some (.slice va vn vc) ∧ W1.cell? ⟨w.heap.size, 4, none⟩ = some (.slice ea en ec) ∧ W1.cell? ⟨w.heap.size, 5, none⟩ = some (.slice fa fn fc) ∧ W1.cell? ⟨w.heap.size + 1, 0, none⟩ = some (.int .i64 t.lv) ∧ W1.cell? ⟨w.heap.size + 1, 1, none⟩ = some (.int .i64 t.le) ∧ W1.cell? ⟨w.heap.size + 1, 2, none⟩ = some (.int .i64 t.lf) ∧ W1.cell? ⟨w.heap.size + 1, 3, none⟩ = some (.slice vb vm vd) ∧ W1.cell? ⟨w.heap.size + 1, 4, none⟩ = some (.slice eb em ed) ∧ W1.cell? ⟨w.heap.size + 1, 5, none⟩ = some (.slice fb fm fd) from by exact ⟨(hb.cell (p := ⟨w.heap.size, 0, none⟩) (by show w.heap.size < W.heap.size; have := HWs.out; omega)).trans (by rw [← hW]; clear hW; go_simp), (hb.cell (p := ⟨w.heap.size, 1, none⟩) (by show w.heap.size < W.heap.size; have := HWs.out; omega)).trans (by rw [← hW]; clear hW; go_simp), (hb.cell (p := ⟨w.heap.size, 2, none⟩) (by show w.heap.size < W.heap.size; have := HWs.out; omega)).trans (by rw [← hW]; clear hW; go_simp), (hb.cell (p := ⟨w.heap.size, 3, none⟩) (by show w.heap.size < W.heap.size; have := HWs.out; omega)).trans (by rw [← hW]; clear hW; go_simp), (hb.cell (p := ⟨w.heap.size, 4, none⟩) (by show w.heap.size < W.heap.size; have := HWs.out; omega)).trans (by rw [← hW]; clear hW; go_simp), (hb.cell (p := ⟨w.heap.size, 5, none⟩) (by show w.heap.size < W.heap.size; have := HWs.out; omega)).trans (by rw [← hW]; clear hW; go_simp), (hb.cell (p := ⟨w.heap.size + 1, 0, none⟩) (by show w.heap.size + 1 < W.heap.size; have := HWs.out; omega)).trans (by rw [← hW]; clear hW; go_simp), (hb.cell (p := ⟨w.heap.size + 1, 1, none⟩) (by show w.heap.size + 1 < W.heap.size; have := HWs.out; omega)).trans (by rw [← hW]; clear hW; go_simp), (hb.cell (p := ⟨w.heap.size + 1, 2, none⟩) (by show w.heap.size + 1 < W.heap.size; have := HWs.out; omega)).trans (by rw [← hW]; clear hW; go_simp), (hb.cell (p := ⟨w.heap.size + 1, 3, none⟩) (by show w.heap.size + 1 < W.heap.size; have := HWs.out; omega)).trans (by rw [← hW]; clear hW; go_simp), (hb.cell (p := ⟨w.heap.size + 1, 4, none⟩) (by show w.heap.size + 1 < W.heap.size; have := HWs.out; omega)).trans (by rw [← hW]; clear hW; go_simp), (hb.cell (p := ⟨w.heap.size + 1, 5, none⟩) (by show w.heap.size + 1 < W.heap.size; have := HWs.out; omega)).trans (by rw [← hW]; clear hW; go_simp)⟩)
          have HB := Lib.hid (Below.refl (W.heap.size) W)
          clear hW
          obtain ⟨q13_0, q13_1, q13_2, q13_3, q13_4, q13_5, q13_6, q13_7, q13_8, q13_9, q13_10, q13_11⟩ := (HC _ HB.out).out
          have r13_0 := Nat.lt_of_lt_of_le (show w.heap.size < W.heap.size by have := HWs.out; omega) HB.out.size
          have r13_1 := Nat.lt_of_lt_of_le (show w.heap.size + 1 < W.heap.size by have := HWs.out; omega) HB.out.size
          refine ((HV _ HW.out).out).mono ?_
          rintro e w14 ⟨rfl, hb14⟩
          have HB := Lib.hid (below_next (below_next HB.out (Nat.le_trans HBW.out HB.out.size) (by repeat (first | exact Below.refl _ _ | refine below_alloc ?_))) (by first | exact (Nat.le_trans HBW.out HB.out.size) | (simp; done) | (have h1 := HBW.out; have h2 := HB.out.size; simp; omega)) hb14)
          clear q13_0 q13_1 q13_2 q13_3 q13_4 q13_5 q13_6 q13_7 q13_8 q13_9 q13_10 q13_11 r13_0 r13_1
          obtain ⟨q14_0, q14_1, q14_2, q14_3, q14_4, q14_5, q14_6, q14_7, q14_8, q14_9, q14_10, q14_11⟩ := (HC _ HB.out).out
          clear hb14
          have r14_0 := Nat.lt_of_lt_of_le (show w.heap.size < W.heap.size by have := HWs.out; omega) HB.out.size
          have r14_1 := Nat.lt_of_lt_of_le (show w.heap.size + 1 < W.heap.size by have := HWs.out; omega) HB.out.size
          go_wp2_with fail
          refine ((HE _ (HW.out.trans (HB.out.mono HW.out.size))).out).mono ?_
          rintro e w15 ⟨rfl, hb15⟩
          have HB := Lib.hid (below_next (below_next HB.out (Nat.le_trans HBW.out HB.out.size) (by repeat (first | exact Below.refl _ _ | refine below_alloc ?_))) (by first | exact (Nat.le_trans HBW.out HB.out.size) | (simp; done) | (have h1 := HBW.out; have h2 := HB.out.size; simp; omega)) hb15)
          clear q14_0 q14_1 q14_2 q14_3 q14_4 q14_5 q14_6 q14_7 q14_8 q14_9 q14_10 q14_11 r14_0 r14_1
          obtain ⟨q15_0, q15_1, q15_2, q15_3, q15_4, q15_5, q15_6, q15_7, q15_8, q15_9, q15_10, q15_11⟩ := (HC _ HB.out).out
          clear hb15
          have r15_0 := Nat.lt_of_lt_of_le (show w.heap.size < W.heap.size by have := HWs.out; omega) HB.out.size
          have r15_1 := Nat.lt_of_lt_of_le (show w.heap.size + 1 < W.heap.size by have := HWs.out; omega) HB.out.size
          go_wp2_with fail
          refine ((HF _ (HW.out.trans (HB.out.mono HW.out.size))).out).mono ?_
          rintro e w16 ⟨rfl, hb16⟩
          have HB := Lib.hid (below_next (below_next HB.out (Nat.le_trans HBW.out HB.out.size) (by repeat (first | exact Below.refl _ _ | refine below_alloc ?_))) (by first | exact (Nat.le_trans HBW.out HB.out.size) | (simp; done) | (have h1 := HBW.out; have h2 := HB.out.size; simp; omega)) hb16)
          clear q15_0 q15_1 q15_2 q15_3 q15_4 q15_5 q15_6 q15_7 q15_8 q15_9 q15_10 q15_11 r15_0 r15_1
          obtain ⟨q16_0, q16_1, q16_2, q16_3, q16_4, q16_5, q16_6, q16_7, q16_8, q16_9, q16_10, q16_11⟩ := (HC _ HB.out).out
          clear hb16
          have r16_0 := Nat.lt_of_lt_of_le (show w.heap.size < W.heap.size by have := HWs.out; omega) HB.out.size
          have r16_1 := Nat.lt_of_lt_of_le (show w.heap.size + 1 < W.heap.size by have := HWs.out; omega) HB.out.size
          go_wp2_with fail
          go_ret
          exact ⟨rfl, (HW.out.trans (HB.out.mono (by have := HWs.out; omega)))⟩
end Go.Proofs.Ythopjhifepijiaa
