/- The empty plan: Right, the wheel, rings, links, pieces, parts. -/
import Derived.Test.YthopjhifepijiaaPlan5
import Derived.Laws.EntriesVeiled
namespace Go.Proofs.Ythopjhifepijiaa
open Go.RowKit
open Go.Maps (Keyed)
set_option linter.unusedVariables false

theorem rightE (va ea : Option Addr) (vc ec : Nat) (w : World) : Calls Try.prog 12 #[.agg #[.slice va 0 vc, .slice ea 0 ec]] w fun e w' => e = .returned (.bool true) ∧ Below w.heap.size w w' := by
  have h := right_any (w := w) (B := 0) (vc := vc) (va := va) (ea := ea) (p := ⟨[], []⟩) (en := 0) (vn := 0) (ec := ec) ⟨rfl, .inl rfl⟩ ⟨rfl, .inl rfl⟩ (Nat.zero_le _) (by omega) (by omega) (Nat.zero_le _) ⟨fun v hv => absurd hv (by simp), fun v hv => absurd hv (by simp)⟩
  rw [rightB_iff.2 ⟨by simp, by simp, fun i v h => by simp at h, fun i v h => by simp at h⟩] at h
  exact h
set_option maxRecDepth 100000 in
set_option maxHeartbeats 2000000 in
theorem turnE (va ea : Option Addr) (vc ec : Nat) (w : World) : Calls Try.prog 47 #[.agg #[.slice va 0 vc, .slice ea 0 ec]] w fun e w' => ∃ m1 m2 m3 m4, e = .returned (.agg #[.map (some m1), .map (some m2), .map (some m3), .map (some m4)]) ∧ Below w.heap.size w w' := by
  have hmm := @run_makeMap Try.prog
  go_enter Try.func47, Try.ntmps47
  go_wp2_with fail
  first | refine wp_name (fun W hW => ?_) | refine calls_name (fun W hW => ?_)
  have HW : Hid (Below w.heap.size w W) := Lib.hid (by rw [← hW]; repeat (first | exact Below.refl _ _ | refine below_alloc ?_))
  have HWs : Hid (W.heap.size = w.heap.size + 1 + 1 + 1 + 1 + 1 + 1 + 1) := Lib.hid (by rw [← hW]; simp)
  have HBW : Hid (W.heap.size ≤ W.heap.size) := Lib.hid (by have := HWs.out; omega)
  have HC := fun (W1 : World) (hb : Below (W.heap.size) W W1) => Lib.hid (show W1.cell? ⟨w.heap.size, 0, none⟩ = some (.slice va 0 vc) ∧ W1.cell? ⟨w.heap.size, 1, none⟩ = some (.slice ea 0 ec) ∧ W1.cell? ⟨w.heap.size + 1, 0, none⟩ = some (.map none) ∧ W1.cell? ⟨w.heap.size + 1, 1, none⟩ = some (.map none) ∧ W1.cell? ⟨w.heap.size + 1, 2, none⟩ = some (.map none) ∧ W1.cell? ⟨w.heap.size + 1, 3, none⟩ = some (.map none) ∧ W1.cell? ⟨w.heap.size + 1 + 1 + 1 + 1 + 1 + 1, 0, none⟩ = some (.map (some (w.heap.size + 1 + 1))) ∧ W1.cell? ⟨w.heap.size + 1 + 1 + 1 + 1 + 1 + 1, 1, none⟩ = some (.map (some (w.heap.size + 1 + 1 + 1))) ∧ W1.cell? ⟨w.heap.size + 1 + 1 + 1 + 1 + 1 + 1, 2, none⟩ = some (.map (some (w.heap.size + 1 + 1 + 1 + 1))) ∧ W1.cell? ⟨w.heap.size + 1 + 1 + 1 + 1 + 1 + 1, 3, none⟩ = some (.map (some (w.heap.size + 1 + 1 + 1 + 1 + 1))) from by exact ⟨(hb.cell (p := ⟨w.heap.size, 0, none⟩) (by show w.heap.size < W.heap.size; have := HWs.out; omega)).trans (by rw [← hW]; clear hW; go_simp), (hb.cell (p := ⟨w.heap.size, 1, none⟩) (by show w.heap.size < W.heap.size; have := HWs.out; omega)).trans (by rw [← hW]; clear hW; go_simp), (hb.cell (p := ⟨w.heap.size + 1, 0, none⟩) (by show w.heap.size + 1 < W.heap.size; have := HWs.out; omega)).trans (by rw [← hW]; clear hW; go_simp), (hb.cell (p := ⟨w.heap.size + 1, 1, none⟩) (by show w.heap.size + 1 < W.heap.size; have := HWs.out; omega)).trans (by rw [← hW]; clear hW; go_simp), (hb.cell (p := ⟨w.heap.size + 1, 2, none⟩) (by show w.heap.size + 1 < W.heap.size; have := HWs.out; omega)).trans (by rw [← hW]; clear hW; go_simp), (hb.cell (p := ⟨w.heap.size + 1, 3, none⟩) (by show w.heap.size + 1 < W.heap.size; have := HWs.out; omega)).trans (by rw [← hW]; clear hW; go_simp), (hb.cell (p := ⟨w.heap.size + 1 + 1 + 1 + 1 + 1 + 1, 0, none⟩) (by show w.heap.size + 1 + 1 + 1 + 1 + 1 + 1 < W.heap.size; have := HWs.out; omega)).trans (by rw [← hW]; clear hW; go_simp), (hb.cell (p := ⟨w.heap.size + 1 + 1 + 1 + 1 + 1 + 1, 1, none⟩) (by show w.heap.size + 1 + 1 + 1 + 1 + 1 + 1 < W.heap.size; have := HWs.out; omega)).trans (by rw [← hW]; clear hW; go_simp), (hb.cell (p := ⟨w.heap.size + 1 + 1 + 1 + 1 + 1 + 1, 2, none⟩) (by show w.heap.size + 1 + 1 + 1 + 1 + 1 + 1 < W.heap.size; have := HWs.out; omega)).trans (by rw [← hW]; clear hW; go_simp), (hb.cell (p := ⟨w.heap.size + 1 + 1 + 1 + 1 + 1 + 1, 3, none⟩) (by show w.heap.size + 1 + 1 + 1 + 1 + 1 + 1 < W.heap.size; have := HWs.out; omega)).trans (by rw [← hW]; clear hW; go_simp)⟩)
  have HB := Lib.hid (Below.refl (W.heap.size) W)
  obtain ⟨q1_0, q1_1, q1_2, q1_3, q1_4, q1_5, q1_6, q1_7, q1_8, q1_9⟩ := (HC _ HB.out).out
  have r1_0 := Nat.lt_of_lt_of_le (show w.heap.size < W.heap.size by have := HWs.out; omega) HB.out.size
  have r1_1 := Nat.lt_of_lt_of_le (show w.heap.size + 1 < W.heap.size by have := HWs.out; omega) HB.out.size
  have r1_2 := Nat.lt_of_lt_of_le (show w.heap.size + 1 + 1 + 1 + 1 + 1 + 1 < W.heap.size by have := HWs.out; omega) HB.out.size
  have HM : Hid (MapT W Try.prog 3 (w.heap.size + 1 + 1 + 1 + 1) 0 ekI (fun v : Value => v) (fun _ => none)) := Lib.hid (by
    have e : ((((w.alloc (.cells #[.slice va 0 vc, .slice ea 0 ec] 30)).alloc (.cells #[.map none, .map none, .map none, .map none] 118)).alloc (.map #[] 0)).alloc (.map #[] 0)).heap.size = w.heap.size + 1 + 1 + 1 + 1 := by simp
    have h1 := MapT.made ((((w.alloc (.cells #[.slice va 0 vc, .slice ea 0 ec] 30)).alloc (.cells #[.map none, .map none, .map none, .map none] 118)).alloc (.map #[] 0)).alloc (.map #[] 0)) Try.prog 3 ekI (fun v : Value => v)
    rw [e] at h1
    rw [← hW]
    exact MapT.alloc (MapT.alloc h1 _) _)
  have HFZ : Hid (∀ j, W.frozen? ⟨w.heap.size + 1, j, none⟩ = false) := Lib.hid (fun j => by rw [← hW]; clear hW; go_simp)
  clear hW
  refine wp_loop_rounds 1 ?_
  rw [rounds_succ]
  go_wp2_with fail
  refine wp_loop_rounds 1 ?_
  rw [rounds_succ]
  go_wp2_with (at_range; refine wpList_range_T _ rfl _ 115 rfl 3 33 Try.keyInt Try.underlying115 (w.heap.size + 1 + 1 + 1 + 1) 0 ekI (fun v : Value => v) (fun _ => none) rfl HM.out ?_; intro w5 cnt hrg hg5 hs5; have HRG := Lib.hid hrg; have HB5 := Lib.hid (HB.out.grown hg5 HB.out.size (by simp)); clear hrg hg5)
  go_frame
  have HB := HB5
  clear q1_0 q1_1 q1_2 q1_3 q1_4 q1_5 q1_6 q1_7 q1_8 q1_9 r1_0 r1_1 r1_2
  obtain ⟨q2_0, q2_1, q2_2, q2_3, q2_4, q2_5, q2_6, q2_7, q2_8, q2_9⟩ := (HC _ HB.out).out
  have r2_0 := Nat.lt_of_lt_of_le (show w.heap.size < W.heap.size by have := HWs.out; omega) HB.out.size
  have r2_1 := Nat.lt_of_lt_of_le (show w.heap.size + 1 < W.heap.size by have := HWs.out; omega) HB.out.size
  have r2_2 := Nat.lt_of_lt_of_le (show w.heap.size + 1 + 1 + 1 + 1 + 1 + 1 < W.heap.size by have := HWs.out; omega) HB.out.size
  have fz := fun j => (HB.out.frozen (p := ⟨w.heap.size + 1, j, none⟩) (show w.heap.size + 1 < W.heap.size by have := HWs.out; omega)).trans (HFZ.out j)
  refine wp_loop_rounds 1 ?_
  rw [rounds_succ]
  go_wp2_with (at_next; refine wpList_next_T _ rfl _ rfl 3 Try.keyInt (w.heap.size + 1 + 1 + 1 + 1) W.heap.size 0 ekI (fun v : Value => v) (fun _ => none) (fun x => (none : Option Value).isSome) cnt (fun key kl hk => by obtain ⟨x, rfl, _⟩ := Maps.keyOf_int_inv Try.underlying3 hk; exact ⟨x, rfl⟩) (fun y z h => ekI_inj _ _ h) rfl HRG.out ?_ (fun x u l w' cnt' hk hl hg => by cases hl); intro _)
  exact bodyPost_ret (v := .agg #[.map (some (w.heap.size + 1 + 1)), .map (some (w.heap.size + 1 + 1 + 1)), .map (some (w.heap.size + 1 + 1 + 1 + 1)), .map (some (w.heap.size + 1 + 1 + 1 + 1 + 1))]) (by simp [results, Try.results47, go_sem, *]) rfl
    ⟨_, _, _, _, rfl, ((((HW.out.trans (HB.out.mono HW.out.size)).setCell (by simp) _).setCell (by simp) _).setCell (by simp) _).setCell (by simp) _⟩

set_option maxRecDepth 100000 in
set_option maxHeartbeats 2000000 in
theorem ringsE (va ea : Option Addr) (vc ec : Nat) (w : World) : Calls Try.prog 19 #[.agg #[.slice va 0 vc, .slice ea 0 ec]] w fun e w' => e = .returned (.slice none 0 0) ∧ Below w.heap.size w w' := by
  have hmm := @run_makeMap Try.prog
  go_enter Try.func19, Try.ntmps19
  go_wp2_with fail
  first | refine wp_name (fun W hW => ?_) | refine calls_name (fun W hW => ?_)
  have HW : Hid (Below w.heap.size w W) := Lib.hid (by rw [← hW]; repeat (first | exact Below.refl _ _ | refine below_alloc ?_))
  have HWs : Hid (W.heap.size = w.heap.size + 1) := Lib.hid (by rw [← hW]; simp)
  have HBW : Hid (W.heap.size ≤ W.heap.size) := Lib.hid (by have := HWs.out; omega)
  have HC := fun (W1 : World) (hb : Below (W.heap.size) W W1) => Lib.hid (show W1.cell? ⟨w.heap.size, 0, none⟩ = some (.slice va 0 vc) ∧ W1.cell? ⟨w.heap.size, 1, none⟩ = some (.slice ea 0 ec) from by exact ⟨(hb.cell (p := ⟨w.heap.size, 0, none⟩) (by show w.heap.size < W.heap.size; have := HWs.out; omega)).trans (by rw [← hW]; clear hW; go_simp), (hb.cell (p := ⟨w.heap.size, 1, none⟩) (by show w.heap.size < W.heap.size; have := HWs.out; omega)).trans (by rw [← hW]; clear hW; go_simp)⟩)
  have HB := Lib.hid (Below.refl (W.heap.size) W)
  clear hW
  obtain ⟨q3_0, q3_1⟩ := (HC _ HB.out).out
  have r3_0 := Nat.lt_of_lt_of_le (show w.heap.size < W.heap.size by have := HWs.out; omega) HB.out.size
  refine (rightE _ _ _ _ _).mono ?_
  rintro e w4 ⟨rfl, hb4⟩
  have HB := Lib.hid (below_next (below_next HB.out (Nat.le_trans HBW.out HB.out.size) (by repeat (first | exact Below.refl _ _ | refine below_alloc ?_))) (by first | exact (Nat.le_trans HBW.out HB.out.size) | (simp; done) | (have h1 := HBW.out; have h2 := HB.out.size; simp; omega)) hb4)
  clear q3_0 q3_1 r3_0
  obtain ⟨q4_0, q4_1⟩ := (HC _ HB.out).out
  clear hb4
  have r4_0 := Nat.lt_of_lt_of_le (show w.heap.size < W.heap.size by have := HWs.out; omega) HB.out.size
  go_wp2_with fail
  refine (turnE _ _ _ _ _).mono ?_
  rintro e w2 ⟨m1, m2, m3, m4, rfl, hb2⟩
  have HB := Lib.hid (below_next HB.out (Nat.le_trans HBW.out HB.out.size) hb2)
  clear q4_0 q4_1 r4_0
  obtain ⟨q5_0, q5_1⟩ := (HC _ HB.out).out
  have r5_0 := Nat.lt_of_lt_of_le (show w.heap.size < W.heap.size by have := HWs.out; omega) HB.out.size
  clear hb2
  go_wp2_with fail
  refine wp_loop_rounds 1 ?_
  rw [rounds_succ]
  go_wp2_with fail
  go_ret
  exact ⟨rfl, ((HW.out.trans (HB.out.mono HW.out.size)).alloc (Nat.le_trans HW.out.size HB.out.size) _).alloc (by have h1 := HW.out.size; have h2 := HB.out.size; simp; omega) _⟩
set_option maxRecDepth 100000 in
set_option maxHeartbeats 2000000 in
theorem linksE (va ea : Option Addr) (vc ec : Nat) (w : World) : Calls Try.prog 63 #[.agg #[.slice va 0 vc, .slice ea 0 ec]] w fun e w' => e = .returned (.tuple #[.map (some (w.heap.size + 1)), .map (some (w.heap.size + 1 + 1))]) ∧ Below w.heap.size w w' := by
  have hmm := @run_makeMap Try.prog
  go_enter Try.func63, Try.ntmps63
  go_wp2_with fail
  first | refine wp_name (fun W hW => ?_) | refine calls_name (fun W hW => ?_)
  have HW : Hid (Below w.heap.size w W) := Lib.hid (by rw [← hW]; repeat (first | exact Below.refl _ _ | refine below_alloc ?_))
  have HWs : Hid (W.heap.size = w.heap.size + 1 + 1 + 1) := Lib.hid (by rw [← hW]; simp)
  have HBW : Hid (W.heap.size ≤ W.heap.size) := Lib.hid (by have := HWs.out; omega)
  have HC := fun (W1 : World) (hb : Below (W.heap.size) W W1) => Lib.hid (show W1.cell? ⟨w.heap.size, 0, none⟩ = some (.slice va 0 vc) ∧ W1.cell? ⟨w.heap.size, 1, none⟩ = some (.slice ea 0 ec) from by exact ⟨(hb.cell (p := ⟨w.heap.size, 0, none⟩) (by show w.heap.size < W.heap.size; have := HWs.out; omega)).trans (by rw [← hW]; clear hW; go_simp), (hb.cell (p := ⟨w.heap.size, 1, none⟩) (by show w.heap.size < W.heap.size; have := HWs.out; omega)).trans (by rw [← hW]; clear hW; go_simp)⟩)
  have HB := Lib.hid (Below.refl (W.heap.size) W)
  clear hW
  obtain ⟨q6_0, q6_1⟩ := (HC _ HB.out).out
  have r6_0 := Nat.lt_of_lt_of_le (show w.heap.size < W.heap.size by have := HWs.out; omega) HB.out.size
  refine (ringsE _ _ _ _ _).mono ?_
  rintro e w7 ⟨rfl, hb7⟩
  have HB := Lib.hid (below_next (below_next HB.out (Nat.le_trans HBW.out HB.out.size) (by repeat (first | exact Below.refl _ _ | refine below_alloc ?_))) (by first | exact (Nat.le_trans HBW.out HB.out.size) | (simp; done) | (have h1 := HBW.out; have h2 := HB.out.size; simp; omega)) hb7)
  clear q6_0 q6_1 r6_0
  obtain ⟨q7_0, q7_1⟩ := (HC _ HB.out).out
  clear hb7
  have r7_0 := Nat.lt_of_lt_of_le (show w.heap.size < W.heap.size by have := HWs.out; omega) HB.out.size
  go_wp2_with fail
  refine wp_loop_rounds 1 ?_
  rw [rounds_succ]
  go_wp2_with fail
  go_ret2
  exact ⟨rfl, (HW.out.trans (HB.out.mono (by have := HWs.out; omega)))⟩
set_option maxRecDepth 100000 in
set_option maxHeartbeats 2000000 in
theorem piecesE (va ea : Option Addr) (vc ec : Nat) (w : World) : Calls Try.prog 70 #[.agg #[.slice va 0 vc, .slice ea 0 ec]] w fun e w' => ∃ v, e = .returned v ∧ Below w.heap.size w w' := by
  have hmm := @run_makeMap Try.prog
  have hmf : ∀ (a b : Value) (w : World), (Instr.makeFunc (Fn.func 92) #[] #[a, b]).run Try.prog w = .ok (.func (Fn.func 92) #[] #[a, b]) w := fun a b w => by kernel_rfl
  go_enter Try.func70, Try.ntmps70
  go_wp2_with fail
  refine wp_loop_rounds 1 ?_
  rw [rounds_succ]
  go_wp2_with fail
  go_ret
  refine ⟨_, rfl, ?_⟩
  repeat (first | exact Below.refl _ _ | refine below_alloc ?_ | refine Below.setCell ?_ (by simp) _)
/-- The one part of an empty plan. -/
def PartE (w : World) (b : Nat) : Prop := w.cell? ⟨b, 0, none⟩ = some (.slice none 0 0) ∧ w.cell? ⟨b, 1, none⟩ = some (.slice none 0 0) ∧ w.cell? ⟨b, 2, none⟩ = some (.slice none 0 0)
theorem PartE.below {w w' : World} {b B : Nat} (h : PartE w b) (hb : Below B w w') (hlt : b < B) : PartE w' b :=
  ⟨(hb.cell (p := ⟨b, 0, none⟩) hlt).trans h.1, (hb.cell (p := ⟨b, 1, none⟩) hlt).trans h.2.1, (hb.cell (p := ⟨b, 2, none⟩) hlt).trans h.2.2⟩
set_option maxRecDepth 100000 in
set_option maxHeartbeats 2000000 in
theorem realmsE (va ea : Option Addr) (vc ec : Nat) (w : World) : Calls Try.prog 38 #[.agg #[.slice va 0 vc, .slice ea 0 ec]] w fun e w' => ∃ b, e = .returned (.tuple #[.slice (some ⟨b, 0, none⟩) 1 1, .slice none 0 0]) ∧ w.heap.size ≤ b ∧ b < w'.heap.size ∧ PartE w' b ∧ Below w.heap.size w w' := by
  go_enter Try.func38, Try.ntmps38
  go_wp2_with fail
  first | refine wp_name (fun W hW => ?_) | refine calls_name (fun W hW => ?_)
  have HW : Hid (Below w.heap.size w W) := Lib.hid (by rw [← hW]; repeat (first | exact Below.refl _ _ | refine below_alloc ?_))
  have HWs : Hid (W.heap.size = w.heap.size + 1) := Lib.hid (by rw [← hW]; simp)
  have HBW : Hid (W.heap.size ≤ W.heap.size) := Lib.hid (by have := HWs.out; omega)
  have HC := fun (W1 : World) (hb : Below (W.heap.size) W W1) => Lib.hid (show W1.cell? ⟨w.heap.size, 0, none⟩ = some (.slice va 0 vc) ∧ W1.cell? ⟨w.heap.size, 1, none⟩ = some (.slice ea 0 ec) from by exact ⟨(hb.cell (p := ⟨w.heap.size, 0, none⟩) (by show w.heap.size < W.heap.size; have := HWs.out; omega)).trans (by rw [← hW]; clear hW; go_simp), (hb.cell (p := ⟨w.heap.size, 1, none⟩) (by show w.heap.size < W.heap.size; have := HWs.out; omega)).trans (by rw [← hW]; clear hW; go_simp)⟩)
  have HB := Lib.hid (Below.refl (W.heap.size) W)
  clear hW
  obtain ⟨q9_0, q9_1⟩ := (HC _ HB.out).out
  have r9_0 := Nat.lt_of_lt_of_le (show w.heap.size < W.heap.size by have := HWs.out; omega) HB.out.size
  refine (rightE _ _ _ _ _).mono ?_
  rintro e w10 ⟨rfl, hb10⟩
  have HB := Lib.hid (below_next (below_next HB.out (Nat.le_trans HBW.out HB.out.size) (by repeat (first | exact Below.refl _ _ | refine below_alloc ?_))) (by first | exact (Nat.le_trans HBW.out HB.out.size) | (simp; done) | (have h1 := HBW.out; have h2 := HB.out.size; simp; omega)) hb10)
  clear q9_0 q9_1 r9_0
  obtain ⟨q10_0, q10_1⟩ := (HC _ HB.out).out
  clear hb10
  have r10_0 := Nat.lt_of_lt_of_le (show w.heap.size < W.heap.size by have := HWs.out; omega) HB.out.size
  go_wp2_with fail
  refine (piecesE _ _ _ _ _).mono ?_
  rintro e w2 ⟨pv, rfl, hb2⟩
  have HB := Lib.hid (below_next HB.out (Nat.le_trans HBW.out HB.out.size) hb2)
  clear q10_0 q10_1 r10_0
  obtain ⟨q11_0, q11_1⟩ := (HC _ HB.out).out
  have r11_0 := Nat.lt_of_lt_of_le (show w.heap.size < W.heap.size by have := HWs.out; omega) HB.out.size
  clear hb2
  go_wp2_with fail
  have hpe : PartE (w2.alloc (.cells #[.slice none 0 0, .slice none 0 0, .slice none 0 0] 41)) w2.heap.size := by unfold PartE; simp [World.cell?_alloc_new]
  have HPE := Lib.hid hpe
  have HSZ : Hid (w.heap.size ≤ w2.heap.size) := Lib.hid (Nat.le_trans HW.out.size HB.out.size)
  clear hpe
  refine (ringsE _ _ _ _ _).mono ?_
  rintro e w12 ⟨rfl, hb12⟩
  have HB := Lib.hid (below_next (below_next HB.out (Nat.le_trans HBW.out HB.out.size) (by repeat (first | exact Below.refl _ _ | refine below_alloc ?_))) (by first | exact (Nat.le_trans HBW.out HB.out.size) | (simp; done) | (have h1 := HBW.out; have h2 := HB.out.size; simp; omega)) hb12)
  clear q11_0 q11_1 r11_0
  obtain ⟨q12_0, q12_1⟩ := (HC _ HB.out).out
  have HPE := Lib.hid (HPE.out.below hb12 (by simp)); have HLT : Hid (w2.heap.size < w12.heap.size) := Lib.hid (by have := hb12.size; simp at this; omega)
  clear hb12
  have r12_0 := Nat.lt_of_lt_of_le (show w.heap.size < W.heap.size by have := HWs.out; omega) HB.out.size
  go_wp2_with fail
  refine wp_loop_rounds 1 ?_
  rw [rounds_succ]
  go_wp2_with fail
  refine wp_loop_rounds 1 ?_
  rw [rounds_succ]
  go_wp2_with fail
  refine wp_loop_rounds 1 ?_
  rw [rounds_succ]
  go_wp2_with fail
  go_ret2
  exact ⟨_, rfl, HSZ.out, HLT.out, HPE.out, HW.out.trans (HB.out.mono HW.out.size)⟩
set_option maxRecDepth 100000 in
theorem partsE (va ea : Option Addr) (vc ec : Nat) (w : World) : Calls Try.prog 10 #[.agg #[.slice va 0 vc, .slice ea 0 ec]] w fun e w' => ∃ b, e = .returned (.slice (some ⟨b, 0, none⟩) 1 1) ∧ w.heap.size ≤ b ∧ b < w'.heap.size ∧ PartE w' b ∧ Below w.heap.size w w' := by
  go_enter Try.func10, Try.ntmps10
  go_wp2_with fail
  refine (realmsE _ _ _ _ _).mono ?_
  rintro e w2 ⟨b, rfl, h1, h2, h3, h4⟩
  have H1 := Lib.hid h1
  have H2 := Lib.hid h2
  have H3 := Lib.hid h3
  have H4 := Lib.hid h4
  clear h1 h2 h3 h4
  go_wp2_with fail
  go_ret
  refine ⟨b, rfl, by have := H1.out; simp at this; omega, H2.out, H3.out, below_step H4.out (below_alloc (Below.refl _ _))⟩
end Go.Proofs.Ythopjhifepijiaa
