/- The empty plan drawn. -/
import Derived.Test.YthopjhifepijiaaEmpty1
import Derived.OwnWalk
import Derived.Laws.OwnMore
import Derived.Laws.AppendOwnNone
namespace Go.Proofs.Ythopjhifepijiaa
open Go.RowKit
open Go.Maps (Keyed)
set_option linter.unusedVariables false

set_option maxRecDepth 100000 in
theorem idxE (f : Value) (w : World) : Calls Try.prog 90 #[.slice none 0 0, f] w fun e w' => e = .returned (.int .i64 (-1)) ∧ Below w.heap.size w w' := by
  go_enter Try.func90, Try.ntmps90
  go_wp2_with fail
  refine wp_loop_rounds 1 ?_
  rw [rounds_succ]
  go_wp2_with fail
  go_ret
  exact ⟨rfl, Below.refl _ _⟩
set_option maxRecDepth 100000 in
theorem containsE (f : Value) (w : World) : Calls Try.prog 61 #[.slice none 0 0, f] w fun e w' => e = .returned (.bool false) ∧ Below w.heap.size w w' := by
  go_enter Try.func61, Try.ntmps61
  go_wp2_with fail
  refine (idxE _ _).mono ?_
  rintro e w2 ⟨rfl, hb⟩
  have HB := Lib.hid hb
  clear hb
  go_wp2_with fail
  go_ret
  exact ⟨rfl, HB.out⟩
theorem set_ne (w : World) (b c o j : Nat) (hne : c ≠ b) (v : Value) : (w.setCell ⟨b, j, none⟩ v).cell? ⟨c, o, none⟩ = w.cell? ⟨c, o, none⟩ := by
  apply World.cell?_setCell_other
  intro h
  injection h with h1 _ _
  exact hne h1.symm
theorem set6 (w : World) (b c o : Nat) (hne : c ≠ b) (v0 v1 v2 v3 v4 v5 : Value) : ((((((w.setCell ⟨b, 0, none⟩ v0).setCell ⟨b, 1, none⟩ v1).setCell ⟨b, 2, none⟩ v2).setCell ⟨b, 3, none⟩ v3).setCell ⟨b, 4, none⟩ v4).setCell ⟨b, 5, none⟩ v5).cell? ⟨c, o, none⟩ = w.cell? ⟨c, o, none⟩ := by
  rw [set_ne _ _ _ _ _ hne, set_ne _ _ _ _ _ hne, set_ne _ _ _ _ _ hne, set_ne _ _ _ _ _ hne, set_ne _ _ _ _ _ hne, set_ne _ _ _ _ _ hne]
theorem cell_pair_at (w : World) (a b : Value) (t : TypeId) {n : Nat} (hn : w.heap.size = n) : ∀ (j : Nat) (u : Value), [a, b][j]? = some u → (w.alloc (.cells #[a, b] t)).cell? ((⟨n, 0, none⟩ : Addr).add j) = some u := by subst hn; exact cell_pair w a b t
theorem Try.infoFace : (Try.prog.info? 83).map (fun i => (i.zero, i.size, i.bytes)) = some (some (.agg #[.int .i64 0, .int .i64 0]), 2, 16) := by kernel_rfl
set_option maxRecDepth 100000 in
set_option maxHeartbeats 4000000 in
theorem drawE (w : World) : Calls Try.prog 29 #[.agg #[.slice none 0 0, .slice none 0 0], .slice none 0 0] w fun e w' => ∃ fb c, e = .returned (.tuple #[.agg #[.int .i64 0, .int .i64 0, .int .i64 0, .slice none 0 0, .slice none 0 0, .slice (some ⟨fb, 0, none⟩) 1 c], .int .i64 0]) ∧ w'.cell? ⟨fb, 0, none⟩ = some (.int .i64 0) ∧ w'.cell? ⟨fb, 1, none⟩ = some (.int .i64 0) ∧ w.heap.size ≤ fb ∧ Below w.heap.size w w' := by
  have hmm := @run_makeMap Try.prog
  go_enter Try.func29, Try.ntmps29
  go_wp2_with fail
  first | refine wp_name (fun W hW => ?_) | refine calls_name (fun W hW => ?_)
  have HW : Hid (Below w.heap.size w W) := Lib.hid (by rw [← hW]; repeat (first | exact Below.refl _ _ | refine below_alloc ?_))
  have HWs : Hid (W.heap.size = w.heap.size + 1 + 1) := Lib.hid (by rw [← hW]; simp)
  have HBW : Hid (W.heap.size ≤ W.heap.size) := Lib.hid (by have := HWs.out; omega)
  have HC := fun (W1 : World) (hb : Below (W.heap.size) W W1) => Lib.hid (show W1.cell? ⟨w.heap.size, 0, none⟩ = some (.slice none 0 0) ∧ W1.cell? ⟨w.heap.size, 1, none⟩ = some (.slice none 0 0) ∧ W1.cell? ⟨w.heap.size + 1, 0, none⟩ = some (.int .i64 0) ∧ W1.cell? ⟨w.heap.size + 1, 1, none⟩ = some (.int .i64 0) ∧ W1.cell? ⟨w.heap.size + 1, 2, none⟩ = some (.int .i64 0) ∧ W1.cell? ⟨w.heap.size + 1, 3, none⟩ = some (.slice none 0 0) ∧ W1.cell? ⟨w.heap.size + 1, 4, none⟩ = some (.slice none 0 0) ∧ W1.cell? ⟨w.heap.size + 1, 5, none⟩ = some (.slice none 0 0) from by exact ⟨(hb.cell (p := ⟨w.heap.size, 0, none⟩) (by show w.heap.size < W.heap.size; have := HWs.out; omega)).trans (by rw [← hW]; clear hW; go_simp), (hb.cell (p := ⟨w.heap.size, 1, none⟩) (by show w.heap.size < W.heap.size; have := HWs.out; omega)).trans (by rw [← hW]; clear hW; go_simp), (hb.cell (p := ⟨w.heap.size + 1, 0, none⟩) (by show w.heap.size + 1 < W.heap.size; have := HWs.out; omega)).trans (by rw [← hW]; clear hW; go_simp), (hb.cell (p := ⟨w.heap.size + 1, 1, none⟩) (by show w.heap.size + 1 < W.heap.size; have := HWs.out; omega)).trans (by rw [← hW]; clear hW; go_simp), (hb.cell (p := ⟨w.heap.size + 1, 2, none⟩) (by show w.heap.size + 1 < W.heap.size; have := HWs.out; omega)).trans (by rw [← hW]; clear hW; go_simp), (hb.cell (p := ⟨w.heap.size + 1, 3, none⟩) (by show w.heap.size + 1 < W.heap.size; have := HWs.out; omega)).trans (by rw [← hW]; clear hW; go_simp), (hb.cell (p := ⟨w.heap.size + 1, 4, none⟩) (by show w.heap.size + 1 < W.heap.size; have := HWs.out; omega)).trans (by rw [← hW]; clear hW; go_simp), (hb.cell (p := ⟨w.heap.size + 1, 5, none⟩) (by show w.heap.size + 1 < W.heap.size; have := HWs.out; omega)).trans (by rw [← hW]; clear hW; go_simp)⟩)
  have HB := Lib.hid (Below.refl (W.heap.size) W)
  obtain ⟨q1_0, q1_1, q1_2, q1_3, q1_4, q1_5, q1_6, q1_7⟩ := (HC _ HB.out).out
  have r1_0 := Nat.lt_of_lt_of_le (show w.heap.size < W.heap.size by have := HWs.out; omega) HB.out.size
  have r1_1 := Nat.lt_of_lt_of_le (show w.heap.size + 1 < W.heap.size by have := HWs.out; omega) HB.out.size
  have HFZ := fun (W1 : World) (hb : Below W.heap.size W W1) => Lib.hid (show ∀ j, W1.frozen? ⟨w.heap.size + 1, j, none⟩ = false from fun j => (hb.frozen (p := ⟨w.heap.size + 1, j, none⟩) (show w.heap.size + 1 < W.heap.size by have := HWs.out; omega)).trans (by rw [← hW]; clear hW; go_simp))
  clear hW
  refine (rightE _ _ _ _ _).mono ?_
  rintro e w2 ⟨rfl, hb2⟩
  have HB := Lib.hid (below_next (below_next HB.out (Nat.le_trans HBW.out HB.out.size) (by repeat (first | exact Below.refl _ _ | refine below_alloc ?_))) (by first | exact (Nat.le_trans HBW.out HB.out.size) | (simp; done) | (have h1 := HBW.out; have h2 := HB.out.size; simp; omega)) hb2)
  clear q1_0 q1_1 q1_2 q1_3 q1_4 q1_5 q1_6 q1_7 r1_0 r1_1
  obtain ⟨q2_0, q2_1, q2_2, q2_3, q2_4, q2_5, q2_6, q2_7⟩ := (HC _ HB.out).out
  clear hb2
  have r2_0 := Nat.lt_of_lt_of_le (show w.heap.size < W.heap.size by have := HWs.out; omega) HB.out.size
  have r2_1 := Nat.lt_of_lt_of_le (show w.heap.size + 1 < W.heap.size by have := HWs.out; omega) HB.out.size
  go_wp2_with fail
  refine (containsE _ _).mono ?_
  rintro e w3 ⟨rfl, hb3⟩
  have HB := Lib.hid (below_next (below_next HB.out (Nat.le_trans HBW.out HB.out.size) (by repeat (first | exact Below.refl _ _ | refine below_alloc ?_))) (by first | exact (Nat.le_trans HBW.out HB.out.size) | (simp; done) | (have h1 := HBW.out; have h2 := HB.out.size; simp; omega)) hb3)
  clear q2_0 q2_1 q2_2 q2_3 q2_4 q2_5 q2_6 q2_7 r2_0 r2_1
  obtain ⟨q3_0, q3_1, q3_2, q3_3, q3_4, q3_5, q3_6, q3_7⟩ := (HC _ HB.out).out
  clear hb3
  have r3_0 := Nat.lt_of_lt_of_le (show w.heap.size < W.heap.size by have := HWs.out; omega) HB.out.size
  have r3_1 := Nat.lt_of_lt_of_le (show w.heap.size + 1 < W.heap.size by have := HWs.out; omega) HB.out.size
  go_wp2_with fail
  refine (linksE _ _ _ _ _).mono ?_
  rintro e wl ⟨rfl, hb4⟩
  have HB := Lib.hid (below_next (below_next HB.out (Nat.le_trans HBW.out HB.out.size) (by repeat (first | exact Below.refl _ _ | refine below_alloc ?_))) (by first | exact (Nat.le_trans HBW.out HB.out.size) | (simp; done) | (have h1 := HBW.out; have h2 := HB.out.size; simp; omega)) hb4)
  clear q3_0 q3_1 q3_2 q3_3 q3_4 q3_5 q3_6 q3_7 r3_0 r3_1
  obtain ⟨q4_0, q4_1, q4_2, q4_3, q4_4, q4_5, q4_6, q4_7⟩ := (HC _ HB.out).out
  clear hb4
  have r4_0 := Nat.lt_of_lt_of_le (show w.heap.size < W.heap.size by have := HWs.out; omega) HB.out.size
  have r4_1 := Nat.lt_of_lt_of_le (show w.heap.size + 1 < W.heap.size by have := HWs.out; omega) HB.out.size
  have r4_0_0 := Nat.lt_succ_of_lt r4_0
  have r4_0_1 := Nat.lt_succ_of_lt r4_0_0
  have r4_0_2 := Nat.lt_succ_of_lt r4_0_1
  have r4_1_0 := Nat.lt_succ_of_lt r4_1
  have r4_1_1 := Nat.lt_succ_of_lt r4_1_0
  have r4_1_2 := Nat.lt_succ_of_lt r4_1_1
  go_wp2_with fail
  have HWL : Hid (W.heap.size ≤ wl.heap.size) := Lib.hid HB.out.size
  first | refine wp_name (fun W2 hW2 => ?_) | refine calls_name (fun W2 hW2 => ?_)
  have HW2 : Hid (Below wl.heap.size wl W2) := Lib.hid (by rw [← hW2]; repeat (first | exact Below.refl _ _ | refine below_alloc ?_))
  have HWs2 : Hid (W2.heap.size = wl.heap.size + 1 + 1 + 1) := Lib.hid (by rw [← hW2]; simp)
  have HBW2 : Hid (W2.heap.size ≤ W2.heap.size) := Lib.hid (by have := HWs2.out; omega)
  have HC2 := fun (W1 : World) (hb : Below (W2.heap.size) W2 W1) => Lib.hid (show W1.cell? ⟨w.heap.size, 0, none⟩ = some (.slice none 0 0) ∧ W1.cell? ⟨w.heap.size, 1, none⟩ = some (.slice none 0 0) ∧ W1.cell? ⟨w.heap.size + 1, 0, none⟩ = some (.int .i64 0) ∧ W1.cell? ⟨w.heap.size + 1, 1, none⟩ = some (.int .i64 0) ∧ W1.cell? ⟨w.heap.size + 1, 2, none⟩ = some (.int .i64 0) ∧ W1.cell? ⟨w.heap.size + 1, 3, none⟩ = some (.slice none 0 0) ∧ W1.cell? ⟨w.heap.size + 1, 4, none⟩ = some (.slice none 0 0) ∧ W1.cell? ⟨w.heap.size + 1, 5, none⟩ = some (.slice none 0 0) ∧ W1.cell? ⟨wl.heap.size + 1 + 1, 0, none⟩ = some (.int .i64 0) ∧ W1.cell? ⟨wl.heap.size + 1 + 1, 1, none⟩ = some (.int .i64 0) ∧ W1.cell? ⟨wl.heap.size + 1 + 1, 2, none⟩ = some (.int .i64 0) ∧ W1.cell? ⟨wl.heap.size + 1 + 1, 3, none⟩ = some (.slice none 0 0) ∧ W1.cell? ⟨wl.heap.size + 1 + 1, 4, none⟩ = some (.slice none 0 0) ∧ W1.cell? ⟨wl.heap.size + 1 + 1, 5, none⟩ = some (.slice none 0 0) from by have ho := (HC W1 (in_of HB.out HW2.out hb (Nat.le_trans HBW.out HB.out.size) (by have h1 := HBW.out; have h2 := HB.out.size; have h3 := HW2.out.size; have h4 := HWs2.out; omega))).out; exact ⟨ho.1, ho.2.1, ho.2.2.1, ho.2.2.2.1, ho.2.2.2.2.1, ho.2.2.2.2.2.1, ho.2.2.2.2.2.2.1, ho.2.2.2.2.2.2.2, (hb.cell (p := ⟨wl.heap.size + 1 + 1, 0, none⟩) (by show wl.heap.size + 1 + 1 < W2.heap.size; have := HWs2.out; omega)).trans (by rw [← hW2]; clear hW2; go_simp), (hb.cell (p := ⟨wl.heap.size + 1 + 1, 1, none⟩) (by show wl.heap.size + 1 + 1 < W2.heap.size; have := HWs2.out; omega)).trans (by rw [← hW2]; clear hW2; go_simp), (hb.cell (p := ⟨wl.heap.size + 1 + 1, 2, none⟩) (by show wl.heap.size + 1 + 1 < W2.heap.size; have := HWs2.out; omega)).trans (by rw [← hW2]; clear hW2; go_simp), (hb.cell (p := ⟨wl.heap.size + 1 + 1, 3, none⟩) (by show wl.heap.size + 1 + 1 < W2.heap.size; have := HWs2.out; omega)).trans (by rw [← hW2]; clear hW2; go_simp), (hb.cell (p := ⟨wl.heap.size + 1 + 1, 4, none⟩) (by show wl.heap.size + 1 + 1 < W2.heap.size; have := HWs2.out; omega)).trans (by rw [← hW2]; clear hW2; go_simp), (hb.cell (p := ⟨wl.heap.size + 1 + 1, 5, none⟩) (by show wl.heap.size + 1 + 1 < W2.heap.size; have := HWs2.out; omega)).trans (by rw [← hW2]; clear hW2; go_simp)⟩)
  have HB2 := Lib.hid (Below.refl (W2.heap.size) W2)
  clear q4_0 q4_1 q4_2 q4_3 q4_4 q4_5 q4_6 q4_7 r4_0 r4_1 r4_0_0 r4_0_1 r4_0_2 r4_1_0 r4_1_1 r4_1_2
  obtain ⟨q5_0, q5_1, q5_2, q5_3, q5_4, q5_5, q5_6, q5_7, q5_8, q5_9, q5_10, q5_11, q5_12, q5_13⟩ := (HC2 _ HB2.out).out
  have r5_0 := Nat.lt_of_lt_of_le (show w.heap.size < W2.heap.size by have h0 : w.heap.size < W.heap.size := (by have := HWs.out; omega); have h2 := HB.out.size; have h3 := HW2.out.size; omega) HB2.out.size
  have r5_1 := Nat.lt_of_lt_of_le (show w.heap.size + 1 < W2.heap.size by have h0 : w.heap.size + 1 < W.heap.size := (by have := HWs.out; omega); have h2 := HB.out.size; have h3 := HW2.out.size; omega) HB2.out.size
  have r5_2 := Nat.lt_of_lt_of_le (show wl.heap.size + 1 + 1 < W2.heap.size by have := HWs2.out; omega) HB2.out.size
  have HRT : Hid (W2.rowIs (wl.heap.size + 1 + 1) 73 6 (fun j => if j < 3 then .int .i64 0 else .slice none 0 0)) := Lib.hid (by
    have e : ((wl.alloc (.map #[] 0)).alloc (.map #[] 0)).heap.size = wl.heap.size + 1 + 1 := by simp
    rw [← hW2, ← e]
    exact World.rowIs_alloc _ #[.int .i64 0, .int .i64 0, .int .i64 0, .slice none 0 0, .slice none 0 0, .slice none 0 0] _ _ (fun i hi => by rcases i with _ | _ | _ | _ | _ | _ | i <;> first | rfl | (simp at hi; omega)))
  clear hW2
  refine (partsE _ _ _ _ _).mono ?_
  rintro e wp ⟨pb, rfl, hp1, hp2, hp3, hpb⟩
  have HB2 := Lib.hid (below_next HB2.out (Nat.le_trans HBW2.out HB2.out.size) hpb)
  clear q5_0 q5_1 q5_2 q5_3 q5_4 q5_5 q5_6 q5_7 q5_8 q5_9 q5_10 q5_11 q5_12 q5_13 r5_0 r5_1 r5_2
  obtain ⟨q6_0, q6_1, q6_2, q6_3, q6_4, q6_5, q6_6, q6_7, q6_8, q6_9, q6_10, q6_11, q6_12, q6_13⟩ := (HC2 _ HB2.out).out
  have r6_0 := Nat.lt_of_lt_of_le (show w.heap.size < W2.heap.size by have h0 : w.heap.size < W.heap.size := (by have := HWs.out; omega); have h2 := HB.out.size; have h3 := HW2.out.size; omega) HB2.out.size
  have r6_1 := Nat.lt_of_lt_of_le (show w.heap.size + 1 < W2.heap.size by have h0 : w.heap.size + 1 < W.heap.size := (by have := HWs.out; omega); have h2 := HB.out.size; have h3 := HW2.out.size; omega) HB2.out.size
  have r6_2 := Nat.lt_of_lt_of_le (show wl.heap.size + 1 + 1 < W2.heap.size by have := HWs2.out; omega) HB2.out.size
  have HRT := Lib.hid (rowIs_touch (F := []) HRT.out (Touch.of_below hpb) (by simp))
  obtain ⟨pc0, pc1, pc2⟩ := hp3
  have rt := fun j (hj : j < 6) => World.rowIs.cell HRT.out hj
  have rt5 := rt 5 (by decide)
  have rt2 := rt 2 (by decide)
  have ft := fun j => World.rowIs.frozen HRT.out j
  have rt0 := rt 0 (by decide)
  have rt1 := rt 1 (by decide)
  have rt3 := rt 3 (by decide)
  have rt4 := rt 4 (by decide)
  simp only [show ¬ (5 < 3) by decide, show ¬ (4 < 3) by decide, show ¬ (3 < 3) by decide, show (2 < 3) by decide, show (1 < 3) by decide, show (0 < 3) by decide, if_true, if_false] at rt0 rt1 rt2 rt3 rt4 rt5
  have rl := World.rowIs.lt HRT.out
  clear hpb hp1 rt
  have r6_0_0 := Nat.lt_succ_of_lt r6_0
  have r6_0_1 := Nat.lt_succ_of_lt r6_0_0
  have r6_0_2 := Nat.lt_succ_of_lt r6_0_1
  have r6_0_3 := Nat.lt_succ_of_lt r6_0_2
  have r6_1_0 := Nat.lt_succ_of_lt r6_1
  have r6_1_1 := Nat.lt_succ_of_lt r6_1_0
  have r6_1_2 := Nat.lt_succ_of_lt r6_1_1
  have r6_1_3 := Nat.lt_succ_of_lt r6_1_2
  have r6_2_0 := Nat.lt_succ_of_lt r6_2
  have r6_2_1 := Nat.lt_succ_of_lt r6_2_0
  have r6_2_2 := Nat.lt_succ_of_lt r6_2_1
  have r6_2_3 := Nat.lt_succ_of_lt r6_2_2
  have rl1 := Nat.lt_succ_of_lt rl
  have rl2 := Nat.lt_succ_of_lt rl1
  have rl3 := Nat.lt_succ_of_lt rl2
  go_wp2_with fail
  refine wp_loop_rounds 2 ?_
  rw [rounds_succ]
  go_wp2_with fail
  have HB := Lib.hid (in_of HB.out HW2.out HB2.out (Nat.le_trans HBW.out HB.out.size) (by have h1 := HBW.out; have h2 := HB.out.size; have h3 := HW2.out.size; have h4 := HWs2.out; omega))
  have HPL : Hid (W2.heap.size ≤ wp.heap.size) := Lib.hid HB2.out.size
  obtain ⟨cp, hcp⟩ : ∃ cp, cp = (Question.appendCap 1 0 83).cut (wp.tape wp.drawn (Question.appendCap 1 0 83)) := ⟨_, rfl⟩
  rw [← hcp]
  refine wp_name (fun W3 hW3 => ?_)
  have HB3 : Hid (Below W.heap.size W W3) := Lib.hid (by
    rw [← hW3]
    refine Below.drew (Below.alloc (Below.alloc (Below.alloc (Below.alloc (Below.alloc (Below.setCell (Below.setCell HB.out ?_ _) ?_ _) ?_ _) ?_ _) ?_ _) ?_ _) ?_ _)
    all_goals (have h1 := HB.out.size; have h2 := HPL.out; have h3 := HWs2.out; have h4 := HW2.out.size; have h5 := HWL.out; simp; omega))
  have z0 : W3.cell? ⟨w.heap.size, 0, none⟩ = some (.slice none 0 0) := (HC _ HB3.out).out.1
  have z1 : W3.cell? ⟨w.heap.size, 1, none⟩ = some (.slice none 0 0) := (HC _ HB3.out).out.2.1
  have t0 : W3.cell? ⟨wl.heap.size + 1 + 1, 0, none⟩ = some (.int .i64 0) := by rw [← hW3]; clear hW3; go_simp
  have t1 : W3.cell? ⟨wl.heap.size + 1 + 1, 1, none⟩ = some (.int .i64 0) := by rw [← hW3]; clear hW3; go_simp
  have t2 : W3.cell? ⟨wl.heap.size + 1 + 1, 2, none⟩ = some (.int .i64 0) := by rw [← hW3]; clear hW3; go_simp
  have t3 : W3.cell? ⟨wl.heap.size + 1 + 1, 3, none⟩ = some (.slice none 0 0) := by rw [← hW3]; clear hW3; go_simp
  have t4 : W3.cell? ⟨wl.heap.size + 1 + 1, 4, none⟩ = some (.slice none 0 0) := by rw [← hW3]; clear hW3; go_simp
  have t5 : W3.cell? ⟨wl.heap.size + 1 + 1, 5, none⟩ = some (.slice (some ⟨wp.heap.size + 1 + 1 + 1, 0, none⟩) 1 cp) := by rw [← hW3]; clear hW3; go_simp
  have p0 : W3.cell? ⟨wp.heap.size, 0, none⟩ = some (.slice none 0 0) := by rw [← hW3]; clear hW3; go_simp
  have p1 : W3.cell? ⟨wp.heap.size, 1, none⟩ = some (.slice none 0 0) := by rw [← hW3]; clear hW3; go_simp
  have p2 : W3.cell? ⟨wp.heap.size, 2, none⟩ = some (.slice none 0 0) := by rw [← hW3]; clear hW3; go_simp
  have s0 : W3.cell? ⟨wp.heap.size + 1 + 1 + 1 + 1, 0, none⟩ = some (.slice none 0 0) := by rw [← hW3]; clear hW3; go_simp
  have f0 : W3.cell? ⟨wp.heap.size + 1 + 1 + 1, 0, none⟩ = some (.int .i64 0) := by rw [← hW3]; clear hW3; go_simp; rw [Array.getElem?_append_left (by simp)]; rfl
  have f1 : W3.cell? ⟨wp.heap.size + 1 + 1 + 1, 1, none⟩ = some (.int .i64 0) := by rw [← hW3]; clear hW3; go_simp; rw [Array.getElem?_append_left (by simp)]; rfl
  have fz := (HFZ _ HB3.out).out
  obtain ⟨_, _, rr0, rr1, rr2, rr3, rr4, rr5⟩ := (HC _ HB3.out).out
  have HFB : Hid (w.heap.size ≤ wp.heap.size + 1 + 1 + 1) := Lib.hid (by have h1 := HW.out.size; have h2 := HWL.out; have h3 := HW2.out.size; have h4 := HPL.out; omega)
  have HF0 := Lib.hid f0
  have HF1 := Lib.hid f1
  have HNE : Hid (wp.heap.size + 1 + 1 + 1 ≠ w.heap.size + 1) := Lib.hid (by have h1 := HWs.out; have h2 := HWL.out; have h3 := HWs2.out; have h4 := HPL.out; omega)
  clear hW3 rt0 rt1 rt2 rt3 rt4 rt5 ft rl rl1 rl2 rl3 f0 f1 pc0 pc1 pc2 hcp hp2
  clear q6_0 q6_1 q6_2 q6_3 q6_4 q6_5 q6_6 q6_7 q6_8 q6_9 q6_10 q6_11 q6_12 q6_13 r6_0 r6_1 r6_2 r6_0_0 r6_0_1 r6_0_2 r6_0_3 r6_1_0 r6_1_1 r6_1_2 r6_1_3 r6_2_0 r6_2_1 r6_2_2 r6_2_3
  refine wp_loop_rounds 2 ?_
  rw [rounds_succ]
  go_wp2_with fail
  refine wp_loop_rounds 1 ?_
  rw [rounds_succ]
  go_wp2_with fail
  rw [rounds_succ]
  go_wp2_with fail
  refine wp_loop_rounds 1 ?_
  rw [rounds_succ]
  go_wp2_with fail
  rw [rounds_succ]
  go_wp2_with fail
  refine wp_loop_rounds 1 ?_
  rw [rounds_succ]
  go_wp2_with fail
  refine wp_loop_rounds 1 ?_
  rw [rounds_succ]
  go_wp2_with fail
  refine bodyPost_ret (v := .tuple #[.agg #[.int .i64 0, .int .i64 0, .int .i64 0, .slice none 0 0, .slice none 0 0, .slice (some ⟨wp.heap.size + 1 + 1 + 1, 0, none⟩) 1 cp], .int .i64 0]) (by simp [results, Try.results29, go_sem, *]) rfl ⟨_, cp, rfl, ?_, ?_, HFB.out, ?_⟩
  · exact (set6 _ _ _ _ HNE.out _ _ _ _ _ _).trans HF0.out
  · exact (set6 _ _ _ _ HNE.out _ _ _ _ _ _).trans HF1.out
  · have h3 : Below w.heap.size w W3 := HW.out.trans (HB3.out.mono HW.out.size)
    repeat (first | exact h3 | refine Below.setCell ?_ (by simp) _)
end Go.Proofs.Ythopjhifepijiaa
