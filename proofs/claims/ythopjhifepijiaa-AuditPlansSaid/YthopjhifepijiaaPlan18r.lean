/- The walk of croftref18.Plan. -/
import Derived.Test.YthopjhifepijiaaPlan18
import Derived.Test.YthopjhifepijiaaMid
import Derived.Deep.AppendLies
namespace Go.Proofs.Ythopjhifepijiaa
open Go.RowKit Go.Joins
set_option linter.unusedVariables false
theorem own_drewN {w : World} {base n size : Nat} {e : TypeId} {v : Value} {xs : List Value} (h : w.ownsRow base e size v n xs) (q : Nat) : (w.drewN q).ownsRow base e size v n xs := ownsRow_touch h (F := []) ((Touch.refl _ _).drewN q) (fun _ _ => by simp)
theorem cell_list_drew (w : World) (l : List Value) (t : TypeId) {n : Nat} (hn : w.heap.size = n) : ∀ (j : Nat) (u : Value), l[j]? = some u → ((w.alloc (.cells l.toArray t)).drew).cell? ((⟨n, 0, none⟩ : Addr).add j) = some u := fun j u h => cell_list_at w l t hn j u h
/-- Four cells, of one block and of another. -/
abbrev SP (w' : World) (c b : Nat) (f o1 o2 o3 : Nat) (u v1 v2 v3 : Value) : Prop := w'.cell? ⟨c, f, none⟩ = some u ∧ w'.cell? ⟨b, o1, none⟩ = some v1 ∧ w'.cell? ⟨b, o2, none⟩ = some v2 ∧ w'.cell? ⟨b, o3, none⟩ = some v3
section
variable {w1 w2 : World} {B c b f o1 o2 o3 : Nat} {u v1 v2 v3 : Value}
theorem SP_below (h : SP w1 c b f o1 o2 o3 u v1 v2 v3) (hc : c < B) (hb : b < B) (k : Below B w1 w2) : SP w2 c b f o1 o2 o3 u v1 v2 v3 :=
  ⟨(k.cell (p := ⟨c, f, none⟩) hc).trans h.1, (k.cell (p := ⟨b, o1, none⟩) hb).trans h.2.1, (k.cell (p := ⟨b, o2, none⟩) hb).trans h.2.2.1, (k.cell (p := ⟨b, o3, none⟩) hb).trans h.2.2.2⟩
end
set_option maxRecDepth 100000 in
set_option maxHeartbeats 4000000 in
theorem planR_any {w : World} {B vn en vc ec : Nat} {va ea : Option Addr} {vs : List VR} {es : List ER} (hv : VRIn w B va vn vs) (he : ERIn w B ea en es) (hB : B ≤ w.heap.size) (n1 : vn ≤ 1000) (n2 : en ≤ 1000) (a b c : Int) (fa : Option Addr) (fn fc : Nat) :
    Calls Try.prog 34 #[.agg #[.int .i64 a, .int .i64 b, .int .i64 c, .slice va vn vc, .slice ea en ec, .slice fa fn fc]] w (PvPost w vs es vn en) := by
  have HVI := Lib.hid hv
  have HEI := Lib.hid he
  obtain ⟨i0, hi, hz0, hz1, hz2⟩ := info_parts Try.infoVx
  obtain ⟨j0, hj, hj0, hj1, hj2⟩ := info_parts Try.infoEd
  have HVL := Lib.hid hv.1
  have HEL := Lib.hid he.1
  clear hv he
  go_enter Try.func34, Try.ntmps34
  go_wp2_with fail
  first | refine wp_name (fun W hW => ?_) | refine calls_name (fun W hW => ?_)
  have HW : Hid (Below w.heap.size w W) := Lib.hid (by rw [← hW]; repeat (first | exact Below.refl _ _ | refine below_alloc ?_))
  have HWs : Hid (W.heap.size = w.heap.size + 1 + 1 + 1) := Lib.hid (by rw [← hW]; simp)
  have HBW : Hid (w.heap.size + 1 + 1 ≤ W.heap.size) := Lib.hid (by have := HWs.out; omega)
  have HC := fun (W1 : World) (hb : Below (w.heap.size + 1 + 1) W W1) => Lib.hid (show W1.cell? ⟨w.heap.size, 0, none⟩ = some (.int .i64 a) ∧ W1.cell? ⟨w.heap.size, 1, none⟩ = some (.int .i64 b) ∧ W1.cell? ⟨w.heap.size, 2, none⟩ = some (.int .i64 c) ∧ W1.cell? ⟨w.heap.size, 3, none⟩ = some (.slice va vn vc) ∧ W1.cell? ⟨w.heap.size, 4, none⟩ = some (.slice ea en ec) ∧ W1.cell? ⟨w.heap.size, 5, none⟩ = some (.slice fa fn fc) ∧ W1.cell? ⟨w.heap.size + 1, 0, none⟩ = some (.slice none 0 0) ∧ W1.cell? ⟨w.heap.size + 1, 1, none⟩ = some (.slice none 0 0) from by exact ⟨(hb.cell (p := ⟨w.heap.size, 0, none⟩) (by show w.heap.size < w.heap.size + 1 + 1; have := HWs.out; omega)).trans (by rw [← hW]; clear hW; go_simp), (hb.cell (p := ⟨w.heap.size, 1, none⟩) (by show w.heap.size < w.heap.size + 1 + 1; have := HWs.out; omega)).trans (by rw [← hW]; clear hW; go_simp), (hb.cell (p := ⟨w.heap.size, 2, none⟩) (by show w.heap.size < w.heap.size + 1 + 1; have := HWs.out; omega)).trans (by rw [← hW]; clear hW; go_simp), (hb.cell (p := ⟨w.heap.size, 3, none⟩) (by show w.heap.size < w.heap.size + 1 + 1; have := HWs.out; omega)).trans (by rw [← hW]; clear hW; go_simp), (hb.cell (p := ⟨w.heap.size, 4, none⟩) (by show w.heap.size < w.heap.size + 1 + 1; have := HWs.out; omega)).trans (by rw [← hW]; clear hW; go_simp), (hb.cell (p := ⟨w.heap.size, 5, none⟩) (by show w.heap.size < w.heap.size + 1 + 1; have := HWs.out; omega)).trans (by rw [← hW]; clear hW; go_simp), (hb.cell (p := ⟨w.heap.size + 1, 0, none⟩) (by show w.heap.size + 1 < w.heap.size + 1 + 1; have := HWs.out; omega)).trans (by rw [← hW]; clear hW; go_simp), (hb.cell (p := ⟨w.heap.size + 1, 1, none⟩) (by show w.heap.size + 1 < w.heap.size + 1 + 1; have := HWs.out; omega)).trans (by rw [← hW]; clear hW; go_simp)⟩)
  have HB := Lib.hid (Below.refl (w.heap.size + 1 + 1) W)
  obtain ⟨q1_0, q1_1, q1_2, q1_3, q1_4, q1_5, q1_6, q1_7⟩ := (HC _ HB.out).out
  have r1_0 := Nat.lt_of_lt_of_le (show w.heap.size < W.heap.size by have := HWs.out; omega) HB.out.size
  have r1_1 := Nat.lt_of_lt_of_le (show w.heap.size + 1 < W.heap.size by have := HWs.out; omega) HB.out.size
  have HFZ := fun (W1 : World) (hb : Below (w.heap.size + 1 + 1) W W1) => Lib.hid (show ∀ j, W1.frozen? ⟨w.heap.size + 1, j, none⟩ = false from fun j => (hb.frozen (p := ⟨w.heap.size + 1, j, none⟩) (by show w.heap.size + 1 < w.heap.size + 1 + 1; omega)).trans (by rw [← hW]; clear hW; go_simp))
  have HRT : Hid (W.rowIs (w.heap.size + 1 + 1) 25 2 (pvF (.slice none 0 0) (.slice none 0 0))) := Lib.hid (by
    rw [← hW]
    exact row_alloc_at _ _ _ _ (by simp) rfl (fun i hi => by
      clear hW
      rcases i with _ | _ | i <;> first | rfl | (simp at hi; omega)))
  clear hW
  clear q1_0 q1_1 q1_2 q1_3 q1_4 q1_5 q1_6 q1_7 r1_0 r1_1
  go_loopw [4] (fun i wr => ∃ (k : Nat) (sv : Value), k ≤ vn ∧ i = .int .i64 k ∧ PvIn 25 w W wr vs es sv (.slice none 0 0) k 0) (fun i _ => vn - (intOf i).toNat)
  case atStart => exact ⟨0, _, Nat.zero_le _, rfl, HRT.out, World.ownsRow_nil _ _ _ _, World.ownsRow_nil _ _ _ _, Below.refl _ _⟩
  case round =>
    clear HRT
    obtain ⟨k, sv, hk, rfl, hI⟩ := hrel
    have HI := Lib.hid hI
    have HB := Lib.hid hI.below
    obtain ⟨o0, o1⟩ := hI.cell
    have ofz := fun i => World.rowIs.frozen hI.out i
    clear hI
    obtain ⟨q2_0, q2_1, q2_2, q2_3, q2_4, q2_5, q2_6, q2_7⟩ := (HC _ HB.out).out
    have r2_0 := Nat.lt_of_lt_of_le (show w.heap.size < W.heap.size by have := HWs.out; omega) HB.out.size
    have r2_1 := Nat.lt_of_lt_of_le (show w.heap.size + 1 < W.heap.size by have := HWs.out; omega) HB.out.size
    have g1 : w.heap.size + 1 + 1 < wr.heap.size := World.rowIs.lt HI.out.out
    have g2 := Nat.lt_succ_of_lt g1
    have g3 := Nat.lt_succ_of_lt g2
    by_cases hlt : k < vn
    · have hbw : Below B w wr := (HW.out.mono hB).trans (HI.out.below.mono (by omega))
      obtain ⟨b1, off1, v, rfl, hb1, hv, x0, x1, x2, x3⟩ := (HVI.out.below hbw).at_ hlt
      have HV := Lib.hid hv
      have hbB : b1 < wr.heap.size := by have := HW.out.size; have := HWs.out; omega
      clear hv hbw
      go_wp2_with fail
      have q1 : (0 : Int) ≤ (k : Int) := by omega
      have q2 : (k : Int) < (vn : Int) := by omega
      have h63 : k + 1 ≤ maxLen := by unfold maxLen; omega
      have hbs : W.heap.size ≤ wr.heap.size + 1 := by have := HI.out.below.size; have := HWs.out; omega
      have hb2 : Below wr.heap.size wr ((wr.alloc (.cells (vxC v).toArray 53)).drew) := (below_alloc (Below.refl _ _)).drew
      have HB2 := Lib.hid hb2
      clear hb2
      have HS1 := Lib.hid (show (fun w' : World => w'.cell? ⟨w.heap.size + 1 + 1, 0, none⟩ = some sv ∧ w'.cell? ⟨w.heap.size, 3, none⟩ = some (.slice (some ⟨b1, off1, none⟩) vn vc) ∧ w'.cell? ⟨b1, off1 + k * 4, none⟩ = some (.int .i64 v.id) ∧ w'.cell? ⟨b1, off1 + k * 4 + 1, none⟩ = some (.int .i64 v.x) ∧ w'.cell? ⟨b1, off1 + k * 4 + 1 + 1, none⟩ = some (.int .i64 v.y)) wr.drew from ⟨by assumption, by assumption, by assumption, by assumption, by assumption⟩)
      have HS2 := Lib.hid (show (fun w' : World => w'.cell? ⟨w.heap.size + 1 + 1, 0, none⟩ = some sv ∧ w'.cell? ⟨w.heap.size, 3, none⟩ = some (.slice (some ⟨b1, off1, none⟩) vn vc) ∧ w'.cell? ⟨b1, off1 + k * 4, none⟩ = some (.int .i64 v.id) ∧ w'.cell? ⟨b1, off1 + k * 4 + 1, none⟩ = some (.int .i64 v.x) ∧ w'.cell? ⟨b1, off1 + k * 4 + 1 + 1, none⟩ = some (.int .i64 v.y)) ((wr.alloc (.cells (vxC v).toArray 53)).drew) from ⟨(HB2.out.cell (p := ⟨_, _, none⟩) (World.rowIs.lt HI.out.out)).trans HS1.out.1, SP_below (w1 := wr) (B := wr.heap.size) HS1.out.2 (by show w.heap.size < _; have := World.rowIs.lt HI.out.out; omega) hbB HB2.out⟩)
      refine wp_region_noPanic ?_
      refine wp_region_mid 15 (by kernel_rfl) (by kernel_rfl) (by simp) (by kernel_rfl) (by kernel_rfl) (by kernel_rfl) rfl (fun _ _ _ _ _ h => h) (fun w' => w'.cell? ⟨w.heap.size + 1 + 1, 0, none⟩ = some sv ∧ w'.cell? ⟨w.heap.size, 3, none⟩ = some (.slice (some ⟨b1, off1, none⟩) vn vc) ∧ w'.cell? ⟨b1, off1 + k * 4, none⟩ = some (.int .i64 v.id) ∧ w'.cell? ⟨b1, off1 + k * 4 + 1, none⟩ = some (.int .i64 v.x) ∧ w'.cell? ⟨b1, off1 + k * 4 + 1 + 1, none⟩ = some (.int .i64 v.y)) HS1.out ?_
      simp only [List.take_succ_cons, List.take_zero, List.drop_succ_cons, List.drop_zero]
      repeat (refine wpYield_cons (v := ?_) (Or.inl ⟨by rfl, ?_⟩) ?_; rotate_left; (intro w hSw; (try dsimp only at hSw); go_simp; try with_reducible rfl); simp only [Act.put, List.setIfInBounds_toArray, List.set_cons_zero, List.set_cons_succ])
      refine wpYield_nil ?_
      refine wpMid_intro (v := ?_) (w1 := ?_) (by rfl) ?_ ?_ ?_
      rotate_left 2
      · (go_simp; constructor <;> rfl)
      · exact HS2.out
      simp only [Act.put, List.setIfInBounds_toArray, List.set_cons_zero, List.set_cons_succ]
      go_wp2_with (at_builtin; refine wpList_append_near _ rfl (.tmp 14) (.tmp 28) 22 rfl W.heap.size 53 i0 (.agg #[.int .i64 0, .int .i64 0, .int .i64 0]) 3 24 Try.underlying22 hi hz0 hz1 hz2 rfl (by omega) sv k ((vs.take k).flatMap vxC) rfl ((HI.out.vs.alloc _).drew) ⟨wr.heap.size, 0, none⟩ 1 1 (vxC v) rfl (by omega) rfl (cell_list_drew _ (vxC v) _ rfl) (by simp [vxC, Value.oneCell']) h63 (by omega) (by simp; omega) ?_)
      intro g cap w5 hown' hgr hnew
      have HN := Lib.hid (HI.out.nextV HWs.out HV.out HB2.out hown' hgr)
      have hrow5 := rowIs_touch (rowIs_touch HI.out.out (Touch.of_below (F := []) HB2.out) (by simp)) (Touch.of_grown hgr) (fun hm => by have := (HI.out.vs.lt _ (Option.mem_toList.1 hm)).1; have := HWs.out; omega)
      have f5 := World.rowIs.frozen hrow5 0
      have p5 := World.rowIs.cell hrow5 (i := 0) (by decide)
      simp only [pvF] at p5
      clear hown' hgr hnew hrow5 HS1 HS2
      clear o0 o1 ofz g1 g2 g3 hbB hb1 q1 q2 h63 hbs
      clear q2_0 q2_1 q2_2 q2_3 q2_4 q2_5 q2_6 q2_7 r2_0 r2_1
      go_wp2_with fail
      refine NoPanic.normal ?_
      go_wp2_with fail
      go_roundw
      case rel => exact ⟨k + 1, _, by omega, by go_num, HN.out⟩
      case measure => simp [intOf]; omega
    · obtain rfl : vn = k := by omega
      clear hlt g1 g2 g3 o0 o1 ofz
      go_wp2_with fail
      clear q2_0 q2_1 q2_2 q2_3 q2_4 q2_5 q2_6 q2_7 r2_0 r2_1
      obtain ⟨wo, rfl⟩ : ∃ wo : World, wo = wr := ⟨_, rfl⟩
      go_loopw [5] (fun i wr => ∃ (j : Nat) (se : Value), j ≤ en ∧ i = .int .i64 j ∧ PvIn 25 w W wr vs es sv se vn j) (fun i _ => en - (intOf i).toNat)
      case atStart => exact ⟨0, _, Nat.zero_le _, rfl, HI.out⟩
      case round =>
        clear HI HB
        obtain ⟨j, se, hj', rfl, hI⟩ := hrel
        have HI := Lib.hid hI
        have HB := Lib.hid hI.below
        obtain ⟨o0, o1⟩ := hI.cell
        have ofz := fun i => World.rowIs.frozen hI.out i
        clear hI
        obtain ⟨q3_0, q3_1, q3_2, q3_3, q3_4, q3_5, q3_6, q3_7⟩ := (HC _ HB.out).out
        have r3_0 := Nat.lt_of_lt_of_le (show w.heap.size < W.heap.size by have := HWs.out; omega) HB.out.size
        have r3_1 := Nat.lt_of_lt_of_le (show w.heap.size + 1 < W.heap.size by have := HWs.out; omega) HB.out.size
        have g1 : w.heap.size + 1 + 1 < wr.heap.size := World.rowIs.lt HI.out.out
        have g2 := Nat.lt_succ_of_lt g1
        have g3 := Nat.lt_succ_of_lt g2
        by_cases hlt : j < en
        · have hbw : Below B w wr := (HW.out.mono hB).trans (HI.out.below.mono (by omega))
          obtain ⟨b1, off1, v, rfl, hb1, hv, x0, x1, x2, x3, x4, x5, x6, x7, x8, x9, x10, x11, x12⟩ := (HEI.out.below hbw).at_ hlt
          have HV := Lib.hid hv
          have hbB : b1 < wr.heap.size := by have := HW.out.size; have := HWs.out; omega
          clear hv hbw
          go_wp2_with fail
          have q1 : (0 : Int) ≤ (j : Int) := by omega
          have q2 : (j : Int) < (en : Int) := by omega
          have h63 : j + 1 ≤ maxLen := by unfold maxLen; omega
          have hbs : W.heap.size ≤ wr.heap.size + 1 := by have := HI.out.below.size; have := HWs.out; omega
          have hb2 : Below wr.heap.size wr ((wr.alloc (.cells (edC v).toArray 63)).drew) := (below_alloc (Below.refl _ _)).drew
          have HB2 := Lib.hid hb2
          clear hb2
          have HS1 := Lib.hid (show (fun w' : World => w'.cell? ⟨w.heap.size + 1 + 1, 1, none⟩ = some se ∧ w'.cell? ⟨w.heap.size, 4, none⟩ = some (.slice (some ⟨b1, off1, none⟩) en ec) ∧ w'.cell? ⟨b1, off1 + j * 13, none⟩ = some (.int .i64 v.id) ∧ w'.cell? ⟨b1, off1 + j * 13 + 1, none⟩ = some (.int .i64 v.a) ∧ w'.cell? ⟨b1, off1 + j * 13 + 1 + 1, none⟩ = some (.int .i64 v.b)) wr.drew from ⟨by assumption, by assumption, by assumption, by assumption, by assumption⟩)
          have HS2 := Lib.hid (show (fun w' : World => w'.cell? ⟨w.heap.size + 1 + 1, 1, none⟩ = some se ∧ w'.cell? ⟨w.heap.size, 4, none⟩ = some (.slice (some ⟨b1, off1, none⟩) en ec) ∧ w'.cell? ⟨b1, off1 + j * 13, none⟩ = some (.int .i64 v.id) ∧ w'.cell? ⟨b1, off1 + j * 13 + 1, none⟩ = some (.int .i64 v.a) ∧ w'.cell? ⟨b1, off1 + j * 13 + 1 + 1, none⟩ = some (.int .i64 v.b)) ((wr.alloc (.cells (edC v).toArray 63)).drew) from ⟨(HB2.out.cell (p := ⟨_, _, none⟩) (World.rowIs.lt HI.out.out)).trans HS1.out.1, SP_below (w1 := wr) (B := wr.heap.size) HS1.out.2 (by show w.heap.size < _; have := World.rowIs.lt HI.out.out; omega) hbB HB2.out⟩)
          refine wp_region_noPanic ?_
          refine wp_region_mid 21 (by kernel_rfl) (by kernel_rfl) (by simp) (by kernel_rfl) (by kernel_rfl) (by kernel_rfl) rfl (fun _ _ _ _ _ h => h) (fun w' => w'.cell? ⟨w.heap.size + 1 + 1, 1, none⟩ = some se ∧ w'.cell? ⟨w.heap.size, 4, none⟩ = some (.slice (some ⟨b1, off1, none⟩) en ec) ∧ w'.cell? ⟨b1, off1 + j * 13, none⟩ = some (.int .i64 v.id) ∧ w'.cell? ⟨b1, off1 + j * 13 + 1, none⟩ = some (.int .i64 v.a) ∧ w'.cell? ⟨b1, off1 + j * 13 + 1 + 1, none⟩ = some (.int .i64 v.b)) HS1.out ?_
          simp only [List.take_succ_cons, List.take_zero, List.drop_succ_cons, List.drop_zero]
          repeat (refine wpYield_cons (v := ?_) (Or.inl ⟨by rfl, ?_⟩) ?_; rotate_left; (intro w hSw; (try dsimp only at hSw); go_simp; try with_reducible rfl); simp only [Act.put, List.setIfInBounds_toArray, List.set_cons_zero, List.set_cons_succ])
          refine wpYield_nil ?_
          refine wpMid_intro (v := ?_) (w1 := ?_) (by rfl) ?_ ?_ ?_
          rotate_left 2
          · (go_simp; constructor <;> rfl)
          · exact HS2.out
          simp only [Act.put, List.setIfInBounds_toArray, List.set_cons_zero, List.set_cons_succ]
          go_wp2_with (at_builtin; refine wpList_append_near _ rfl (.tmp 39) (.tmp 59) 23 rfl W.heap.size 63 j0 (.agg #[.int .i64 0, .int .i64 0, .int .i64 0]) 3 24 Try.underlying23 hj hj0 hj1 hj2 rfl (by omega) se j ((es.take j).flatMap edC) rfl ((HI.out.es.alloc _).drew) ⟨wr.heap.size, 0, none⟩ 1 1 (edC v) rfl (by omega) rfl (cell_list_drew _ (edC v) _ rfl) (by simp [edC, Value.oneCell']) h63 (by omega) (by simp; omega) ?_)
          intro g cap w5 hown' hgr hnew
          have HN := Lib.hid (HI.out.nextE HWs.out HV.out HB2.out hown' hgr)
          have hrow5 := rowIs_touch (rowIs_touch HI.out.out (Touch.of_below (F := []) HB2.out) (by simp)) (Touch.of_grown hgr) (fun hm => by have := (HI.out.es.lt _ (Option.mem_toList.1 hm)).1; have := HWs.out; omega)
          have f5 := World.rowIs.frozen hrow5 1
          have p5 := World.rowIs.cell hrow5 (i := 1) (by decide)
          simp only [pvF] at p5
          clear hown' hgr hnew hrow5 HS1 HS2
          clear o0 o1 ofz g1 g2 g3 hbB hb1 x0 x1 x2 x3 x4 x5 x6 x7 x8 x9 x10 x11 x12 q1 q2 h63 hbs
          clear q3_0 q3_1 q3_2 q3_3 q3_4 q3_5 q3_6 q3_7 r3_0 r3_1
          go_wp2_with fail
          refine NoPanic.normal ?_
          go_wp2_with fail
          go_roundw
          case rel => exact ⟨j + 1, _, by omega, by go_num, HN.out⟩
          case measure => simp [intOf]; omega
        · obtain rfl : en = j := by omega
          clear hlt
          have fz := (HFZ _ HI.out.below).out
          obtain ⟨a1, c1, rfl⟩ := own_form HI.out.vs
          obtain ⟨a2, c2, rfl⟩ := own_form HI.out.es
          go_wp2_with fail
          refine bodyPost_ret (v := .agg #[.slice a1 vn c1, .slice a2 en c2]) (by simp [results, Try.results34, go_sem, *]) rfl ?_
          refine HI.out.finish HVL.out HEL.out HW.out HWs.out ?_
          iterate 2 refine Touch.setCell ?_ (.inl (by simp)) _
          with_reducible exact Touch.refl _ _
end Go.Proofs.Ythopjhifepijiaa
