/- The walk of croftlaw18.Rows, its end. -/
import Derived.Test.YthopjhifepijiaaConv18
namespace Go.Proofs.Ythopjhifepijiaa
open Go.RowKit Go.Joins
set_option linter.unusedVariables false
set_option maxRecDepth 100000 in
set_option maxHeartbeats 4000000 in
theorem conv_any {w : World} {B vn en fn vc ec fc : Nat} {va ea fa : Option Addr} {t : TB} (ht : TbIn w B va ea fa vn en fn t) (hB : B ≤ w.heap.size) (n1 : vn ≤ 1000) (n2 : en ≤ 1000) :
    Calls Try.prog 33 #[.agg #[.int .i64 t.lv, .int .i64 t.le, .int .i64 t.lf, .slice va vn vc, .slice ea en ec, .slice fa fn fc]] w (CvPost w t vn en fn fc fa) := by
  have HT := Lib.hid ht
  obtain ⟨i0, hi, hz0, hz1, hz2⟩ := info_parts Try.infoVR
  obtain ⟨j0, hj, hj0, hj1, hj2⟩ := info_parts Try.infoER
  have hvl := ht.vs.1
  have hel := ht.es.1
  have HVL := Lib.hid hvl
  have HEL := Lib.hid hel
  clear ht hvl hel
  go_enter Try.func33, Try.ntmps33
  go_wp2_with fail
  first | refine wp_name (fun W hW => ?_) | refine calls_name (fun W hW => ?_)
  have HW : Hid (Below w.heap.size w W) := Lib.hid (by rw [← hW]; repeat (first | exact Below.refl _ _ | refine below_alloc ?_))
  have HWs : Hid (W.heap.size = w.heap.size + 1 + 1 + 1) := Lib.hid (by rw [← hW]; simp)
  have HBW : Hid (w.heap.size + 1 + 1 ≤ W.heap.size) := Lib.hid (by have := HWs.out; omega)
  have HC := fun (W1 : World) (hb : Below (w.heap.size + 1 + 1) W W1) => Lib.hid (show W1.cell? ⟨w.heap.size, 0, none⟩ = some (.int .i64 t.lv) ∧ W1.cell? ⟨w.heap.size, 1, none⟩ = some (.int .i64 t.le) ∧ W1.cell? ⟨w.heap.size, 2, none⟩ = some (.int .i64 t.lf) ∧ W1.cell? ⟨w.heap.size, 3, none⟩ = some (.slice va vn vc) ∧ W1.cell? ⟨w.heap.size, 4, none⟩ = some (.slice ea en ec) ∧ W1.cell? ⟨w.heap.size, 5, none⟩ = some (.slice fa fn fc) ∧ W1.cell? ⟨w.heap.size + 1, 0, none⟩ = some (.int .i64 0) ∧ W1.cell? ⟨w.heap.size + 1, 1, none⟩ = some (.int .i64 0) ∧ W1.cell? ⟨w.heap.size + 1, 2, none⟩ = some (.int .i64 0) ∧ W1.cell? ⟨w.heap.size + 1, 3, none⟩ = some (.slice none 0 0) ∧ W1.cell? ⟨w.heap.size + 1, 4, none⟩ = some (.slice none 0 0) ∧ W1.cell? ⟨w.heap.size + 1, 5, none⟩ = some (.slice none 0 0) from by exact ⟨(hb.cell (p := ⟨w.heap.size, 0, none⟩) (by show w.heap.size < w.heap.size + 1 + 1; have := HWs.out; omega)).trans (by rw [← hW]; clear hW; go_simp), (hb.cell (p := ⟨w.heap.size, 1, none⟩) (by show w.heap.size < w.heap.size + 1 + 1; have := HWs.out; omega)).trans (by rw [← hW]; clear hW; go_simp), (hb.cell (p := ⟨w.heap.size, 2, none⟩) (by show w.heap.size < w.heap.size + 1 + 1; have := HWs.out; omega)).trans (by rw [← hW]; clear hW; go_simp), (hb.cell (p := ⟨w.heap.size, 3, none⟩) (by show w.heap.size < w.heap.size + 1 + 1; have := HWs.out; omega)).trans (by rw [← hW]; clear hW; go_simp), (hb.cell (p := ⟨w.heap.size, 4, none⟩) (by show w.heap.size < w.heap.size + 1 + 1; have := HWs.out; omega)).trans (by rw [← hW]; clear hW; go_simp), (hb.cell (p := ⟨w.heap.size, 5, none⟩) (by show w.heap.size < w.heap.size + 1 + 1; have := HWs.out; omega)).trans (by rw [← hW]; clear hW; go_simp), (hb.cell (p := ⟨w.heap.size + 1, 0, none⟩) (by show w.heap.size + 1 < w.heap.size + 1 + 1; have := HWs.out; omega)).trans (by rw [← hW]; clear hW; go_simp), (hb.cell (p := ⟨w.heap.size + 1, 1, none⟩) (by show w.heap.size + 1 < w.heap.size + 1 + 1; have := HWs.out; omega)).trans (by rw [← hW]; clear hW; go_simp), (hb.cell (p := ⟨w.heap.size + 1, 2, none⟩) (by show w.heap.size + 1 < w.heap.size + 1 + 1; have := HWs.out; omega)).trans (by rw [← hW]; clear hW; go_simp), (hb.cell (p := ⟨w.heap.size + 1, 3, none⟩) (by show w.heap.size + 1 < w.heap.size + 1 + 1; have := HWs.out; omega)).trans (by rw [← hW]; clear hW; go_simp), (hb.cell (p := ⟨w.heap.size + 1, 4, none⟩) (by show w.heap.size + 1 < w.heap.size + 1 + 1; have := HWs.out; omega)).trans (by rw [← hW]; clear hW; go_simp), (hb.cell (p := ⟨w.heap.size + 1, 5, none⟩) (by show w.heap.size + 1 < w.heap.size + 1 + 1; have := HWs.out; omega)).trans (by rw [← hW]; clear hW; go_simp)⟩)
  have HB := Lib.hid (Below.refl (w.heap.size + 1 + 1) W)
  obtain ⟨q1_0, q1_1, q1_2, q1_3, q1_4, q1_5, q1_6, q1_7, q1_8, q1_9, q1_10, q1_11⟩ := (HC _ HB.out).out
  have r1_0 := Nat.lt_of_lt_of_le (show w.heap.size < W.heap.size by have := HWs.out; omega) HB.out.size
  have r1_1 := Nat.lt_of_lt_of_le (show w.heap.size + 1 < W.heap.size by have := HWs.out; omega) HB.out.size
  have HFZ := fun (W1 : World) (hb : Below (w.heap.size + 1 + 1) W W1) => Lib.hid (show ∀ j, W1.frozen? ⟨w.heap.size + 1, j, none⟩ = false from fun j => (hb.frozen (p := ⟨w.heap.size + 1, j, none⟩) (by show w.heap.size + 1 < w.heap.size + 1 + 1; omega)).trans (by rw [← hW]; clear hW; go_simp))
  have HRT : Hid (W.rowIs (w.heap.size + 1 + 1) 73 6 (tbF t.lv t.le t.lf (.slice none 0 0) (.slice none 0 0) (.slice fa fn fc))) := Lib.hid (by
    rw [← hW]
    exact row_alloc_at _ _ _ _ (by simp) rfl (fun i hi => by
      clear hW
      rcases i with _ | _ | _ | _ | _ | _ | i <;> first | rfl | (simp at hi; omega)))
  clear hW
  clear q1_0 q1_1 q1_2 q1_3 q1_4 q1_5 q1_6 q1_7 q1_8 q1_9 q1_10 q1_11 r1_0 r1_1
  go_loopw [4] (fun i wr => ∃ (k : Nat) (sv : Value), k ≤ vn ∧ i = .int .i64 k ∧ CvIn w W wr t (.slice fa fn fc) sv (.slice none 0 0) k 0) (fun i _ => vn - (intOf i).toNat)
  case atStart => exact ⟨0, _, Nat.zero_le _, rfl, HRT.out, World.ownsRow_nil _ _ _ _, World.ownsRow_nil _ _ _ _, Below.refl _ _⟩
  case round =>
    clear HRT
    obtain ⟨k, sv, hk, rfl, hI⟩ := hrel
    have HI := Lib.hid hI
    have HB := Lib.hid hI.below
    obtain ⟨o0, o1, o2, o3, o4, o5⟩ := hI.cell
    have ofz := fun i => World.rowIs.frozen hI.out i
    clear hI
    obtain ⟨q2_0, q2_1, q2_2, q2_3, q2_4, q2_5, q2_6, q2_7, q2_8, q2_9, q2_10, q2_11⟩ := (HC _ HB.out).out
    have r2_0 := Nat.lt_of_lt_of_le (show w.heap.size < W.heap.size by have := HWs.out; omega) HB.out.size
    have r2_1 := Nat.lt_of_lt_of_le (show w.heap.size + 1 < W.heap.size by have := HWs.out; omega) HB.out.size
    have g1 : w.heap.size + 1 + 1 < wr.heap.size := World.rowIs.lt HI.out.out
    have g2 := Nat.lt_succ_of_lt g1
    have g3 := Nat.lt_succ_of_lt g2
    by_cases hlt : k < vn
    · have hbw : Below B w wr := (HW.out.mono hB).trans (HI.out.below.mono (by omega))
      obtain ⟨b1, off1, v, rfl, hb1, hv, x0, x1, x2, x3⟩ := (HT.out.below hbw).vs.at_ hlt
      have HV := Lib.hid hv
      have hbB : b1 < wr.heap.size := by have := HW.out.size; have := HWs.out; omega
      clear hv hbw
      go_wp2_with (at_builtin; refine wpList_append_near _ rfl (.tmp 30) (.tmp 38) 69 rfl W.heap.size 141 i0 (.agg #[.int .i64 0, .int .i64 0, .int .i64 0, .int .i64 0]) 4 32 Try.underlying69 hi hz0 hz1 hz2 rfl (by decide) sv k ((t.vs.take k).flatMap vrC) rfl ((HI.out.vs.alloc _).alloc _) ⟨wr.heap.size + 1, 0, none⟩ 1 1 (vrC v) rfl (by decide) rfl ?c1 ?c2 ?c3 ?c4 ?c5 ?_)
      case c1 => exact cell_list_at _ (vrC v) _ (by simp)
      case c2 => intro u hu; simp [vrC] at hu; rcases hu with rfl | rfl | rfl | rfl <;> rfl
      case c3 => unfold maxLen; omega
      case c4 => omega
      case c5 => have := HI.out.below.size; simp; omega
      intro g cap w5 hown' hgr hnew
      have hb2 : Below wr.heap.size wr ((wr.alloc (.cells #[.int .i64 v.id, .int .i64 v.x, .int .i64 v.y, .int .i64 v.f] 146)).alloc (.cells #[.int .i64 v.id, .int .i64 v.x, .int .i64 v.y, .int .i64 v.f] 141)) := below_alloc (below_alloc (Below.refl _ _))
      have HN := Lib.hid (HI.out.nextV HWs.out HV.out hb2 hown' hgr)
      have hrow5 := rowIs_touch (rowIs_touch HI.out.out (Touch.of_below (F := []) hb2) (by simp)) (Touch.of_grown hgr) (fun hm => by have := (HI.out.vs.lt _ (Option.mem_toList.1 hm)).1; have := HWs.out; omega)
      have f5 := World.rowIs.frozen hrow5 3
      have p5 := World.rowIs.cell hrow5 (i := 3) (by decide)
      simp only [tbF] at p5
      clear hown' hgr hnew hb2 hrow5 o0 o1 o2 o3 o4 o5 ofz g1 g2 g3 hbB hb1
      clear q2_0 q2_1 q2_2 q2_3 q2_4 q2_5 q2_6 q2_7 q2_8 q2_9 q2_10 q2_11 r2_0 r2_1
      go_wp2_with fail
      go_roundw
      case rel => exact ⟨k + 1, _, by omega, by go_num, HN.out⟩
      case measure => simp [intOf]; omega
    · obtain rfl : vn = k := by omega
      clear hlt g1 g2 g3 o0 o1 o2 o3 o4 o5 ofz
      go_wp2_with fail
      clear q2_0 q2_1 q2_2 q2_3 q2_4 q2_5 q2_6 q2_7 q2_8 q2_9 q2_10 q2_11 r2_0 r2_1
      obtain ⟨wo, rfl⟩ : ∃ wo : World, wo = wr := ⟨_, rfl⟩
      go_loopw [6] (fun i wr => ∃ (j : Nat) (se : Value), j ≤ en ∧ i = .int .i64 j ∧ CvIn w W wr t (.slice fa fn fc) sv se vn j) (fun i _ => en - (intOf i).toNat)
      case atStart => exact ⟨0, _, Nat.zero_le _, rfl, HI.out⟩
      case round =>
        clear HI HB
        obtain ⟨j, se, hj', rfl, hI⟩ := hrel
        have HI := Lib.hid hI
        have HB := Lib.hid hI.below
        obtain ⟨o0, o1, o2, o3, o4, o5⟩ := hI.cell
        have ofz := fun i => World.rowIs.frozen hI.out i
        clear hI
        obtain ⟨q3_0, q3_1, q3_2, q3_3, q3_4, q3_5, q3_6, q3_7, q3_8, q3_9, q3_10, q3_11⟩ := (HC _ HB.out).out
        have r3_0 := Nat.lt_of_lt_of_le (show w.heap.size < W.heap.size by have := HWs.out; omega) HB.out.size
        have r3_1 := Nat.lt_of_lt_of_le (show w.heap.size + 1 < W.heap.size by have := HWs.out; omega) HB.out.size
        have g1 : w.heap.size + 1 + 1 < wr.heap.size := World.rowIs.lt HI.out.out
        have g2 := Nat.lt_succ_of_lt g1
        have g3 := Nat.lt_succ_of_lt g2
        by_cases hlt : j < en
        · have hbw : Below B w wr := (HW.out.mono hB).trans (HI.out.below.mono (by omega))
          obtain ⟨b1, off1, v, rfl, hb1, hv, x0, x1, x2, x3, x4, x5, x6, x7, x8, x9, x10, x11, x12⟩ := (HT.out.below hbw).es.at_ hlt
          have HV := Lib.hid hv
          have hbB : b1 < wr.heap.size := by have := HW.out.size; have := HWs.out; omega
          clear hv hbw
          go_wp2_with (at_builtin; refine wpList_append_near _ rfl (.tmp 54) (.tmp 68) 70 rfl W.heap.size 81 j0 _ 13 104 Try.underlying70 hj hj0 hj1 hj2 rfl (by decide) se j ((t.es.take j).flatMap erC) rfl ((HI.out.es.alloc _).alloc _) ⟨wr.heap.size + 1, 0, none⟩ 1 1 (erC v) rfl (by decide) rfl ?d1 ?d2 ?d3 ?d4 ?d5 ?_)
          case d1 => exact cell_list_at _ (erC v) _ (by simp)
          case d2 => intro u hu; simp [erC] at hu; rcases hu with rfl | rfl | rfl | rfl | rfl | rfl | rfl | rfl | rfl | rfl | rfl | rfl | rfl <;> rfl
          case d3 => unfold maxLen; omega
          case d4 => omega
          case d5 => have := HI.out.below.size; simp; omega
          intro g cap w5 hown' hgr hnew
          have hb2 : Below wr.heap.size wr ((wr.alloc (.cells (erC v).toArray 147)).alloc (.cells (erC v).toArray 81)) := below_alloc (below_alloc (Below.refl _ _))
          have HN := Lib.hid (HI.out.nextE HWs.out HV.out hb2 hown' hgr)
          have hrow5 := rowIs_touch (rowIs_touch HI.out.out (Touch.of_below (F := []) hb2) (by simp)) (Touch.of_grown hgr) (fun hm => by have := (HI.out.es.lt _ (Option.mem_toList.1 hm)).1; have := HWs.out; omega)
          have f5 := World.rowIs.frozen hrow5 4
          have p5 := World.rowIs.cell hrow5 (i := 4) (by decide)
          simp only [tbF] at p5
          clear hown' hgr hnew hb2 hrow5 o0 o1 o2 o3 o4 o5 ofz g1 g2 g3 hbB hb1 x0 x1 x2 x3 x4 x5 x6 x7 x8 x9 x10 x11 x12
          clear q3_0 q3_1 q3_2 q3_3 q3_4 q3_5 q3_6 q3_7 q3_8 q3_9 q3_10 q3_11 r3_0 r3_1
          go_wp2_with fail
          go_roundw
          case rel => exact ⟨j + 1, _, by omega, by go_num, HN.out⟩
          case measure => simp [intOf]; omega
        · obtain rfl : en = j := by omega
          clear hlt
          have fz := (HFZ _ HI.out.below).out
          obtain ⟨a1, c1, rfl⟩ := own_form HI.out.vs
          obtain ⟨a2, c2, rfl⟩ := own_form HI.out.es
          have HTV : Hid (t.vs.take vn = t.vs) := Lib.hid (List.take_of_length_le (by rw [HVL.out]; omega))
          have HTE : Hid (t.es.take en = t.es) := Lib.hid (List.take_of_length_le (by rw [HEL.out]; omega))
          go_wp2_with fail
          refine bodyPost_ret (v := .agg #[.int .i64 t.lv, .int .i64 t.le, .int .i64 t.lf, .slice a1 vn c1, .slice a2 en c2, .slice fa fn fc]) (by simp [results, Try.results33, go_sem, *]) rfl ?_
          have T : ∀ w5, Touch [w.heap.size + 1] wr w5 → CvPost w t vn en fn fc fa (.returned (.agg #[.int .i64 t.lv, .int .i64 t.le, .int .i64 t.lf, .slice a1 vn c1, .slice a2 en c2, .slice fa fn fc])) w5 := by
            intro w5 T
            have h1 := ownsRow_touch HI.out.vs T (fun q hq => by have := (HI.out.vs.lt q hq).1; have := HWs.out; simp; omega)
            have h2 := ownsRow_touch HI.out.es T (fun q hq => by have := (HI.out.es.lt q hq).1; have := HWs.out; simp; omega)
            rw [HTV.out] at h1
            rw [HTE.out] at h2
            refine ⟨a1, c1, a2, c2, rfl, vrIn_of_own h1 HVL.out, erIn_of_own h2 HEL.out, ?_⟩
            exact (HW.out.trans (HI.out.below.mono (by omega))).trans (T.below (by have := HW.out.size; have := HI.out.below.size; omega) (fun b hb => by simp at hb; omega))
          refine T _ ?_
          iterate 6 refine Touch.setCell ?_ (.inl (by simp)) _
          with_reducible exact Touch.refl _ _
end Go.Proofs.Ythopjhifepijiaa
