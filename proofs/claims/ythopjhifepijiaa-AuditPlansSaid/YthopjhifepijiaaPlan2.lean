/- The walk of plan.crossed; the map of the points. -/
import Derived.Test.YthopjhifepijiaaPlan1
import Derived.Carry
namespace Go.Proofs.Ythopjhifepijiaa
open Go.RowKit
open Go.Maps (Keyed)
set_option linter.unusedVariables false

abbrev ekI (i : Int) : Value := .int .i64 i
abbrev ptV (p : Pt) : Value := .agg #[.int .i64 p.x, .int .i64 p.y]
theorem ekI_inj (x y : Int) (h : ekI y = ekI x) : y = x := by injection h
theorem wf_int {x : Int} (h : fitI x) : (Lit.int .i64 x).wf = true := WalkArith.wf_i64 (by unfold fitI at h; omega)
theorem zeroPt (w : World) : (zeroValue 51).run Try.prog w = .ok (.agg #[.int .i64 0, .int .i64 0]) w := by kernel_rfl
/-- The map from numbers to points. -/
def AtMap (w : World) (M n : Nat) (vs : List Vx) : Prop := MapT w Try.prog 3 M n ekI ptV (ptOf vs)
theorem AtMap.look {w : World} {M n : Nat} {vs : List Vx} (h : AtMap w M n vs) (id : Int) (hid : fitI id) :
    (Instr.lookup 100 (.map (some M)) (.int .i64 id) false).run Try.prog w = .ok (.agg #[.int .i64 (ptZ vs id).x, .int .i64 (ptZ vs id).y]) w := by
  have := MapT.look h Try.keyInt Try.underlying100 (zeroPt w) (x := id) (key_int id (wf_int hid))
  rw [this]
  unfold ptZ
  cases ptOf vs id <;> rfl
theorem AtMap.look_ok {w : World} {M n : Nat} {vs : List Vx} (h : AtMap w M n vs) (id : Int) (hid : fitI id) :
    (Instr.lookup 100 (.map (some M)) (.int .i64 id) true).run Try.prog w = .ok (.tuple #[.agg #[.int .i64 (ptZ vs id).x, .int .i64 (ptZ vs id).y], .bool (ptOf vs id).isSome]) w := by
  have := MapT.look_ok h Try.keyInt Try.underlying100 (zeroPt w) (x := id) (key_int id (wf_int hid))
  rw [this]
  unfold ptZ
  cases ptOf vs id <;> rfl

theorem below_grown {B b : Nat} {a c d : World} (h : Below B a c) (hg : c.grownBy d (some b)) (hB : B ≤ c.heap.size) (hb : B ≤ b) : Below B a d := h.grown hg hB (fun k e => by injection e with e; omega)
def crossedB (vs : List Vx) (es : List Ed) (a b : Pt) : Bool := es.any fun e => meetB a b (ptZ vs e.a) (ptZ vs e.b)
set_option maxRecDepth 100000 in
set_option maxHeartbeats 4000000 in
theorem crossed_any {w : World} {B vn vc en ec : Nat} {va ea : Option Addr} {vs : List Vx} {es : List Ed} (hv : VsIn w B va vn vs) (he : EsIn w B ea en es) (hB : B ≤ w.heap.size) (hn : vn ≤ 100000) (hm : en ≤ 100000)
    (hfit : FitPL ⟨vs, es⟩) (hap : vs.Pairwise (fun u v => u.id ≠ v.id)) (a b : Pt) :
    Calls Try.prog 42 #[.agg #[.slice va vn vc, .slice ea en ec], .agg #[.int .i64 a.x, .int .i64 a.y], .agg #[.int .i64 b.x, .int .i64 b.y]] w fun e w' => e = .returned (.bool (crossedB vs es a b)) ∧ Below w.heap.size w w' := by
  have HV := Lib.hid hv
  have HE := Lib.hid he
  have HF := Lib.hid hfit
  have HP := Lib.hid hap
  have hmm := @run_makeMap Try.prog
  clear hv he hfit hap
  go_enter Try.func42, Try.ntmps42
  go_wp2_with fail
  first | refine wp_name (fun W hW => ?_) | refine calls_name (fun W hW => ?_)
  have HW : Hid (Below w.heap.size w W) := Lib.hid (by rw [← hW]; repeat (first | exact Below.refl _ _ | refine below_alloc ?_))
  have HWs : Hid (W.heap.size = w.heap.size + 1 + 1 + 1 + 1) := Lib.hid (by rw [← hW]; simp)
  have HBW : Hid (w.heap.size + 1 + 1 + 1 ≤ W.heap.size) := Lib.hid (by have := HWs.out; omega)
  have HC := fun (W1 : World) (hb : Below (w.heap.size + 1 + 1 + 1) W W1) => Lib.hid (show W1.cell? ⟨w.heap.size, 0, none⟩ = some (.slice va vn vc) ∧ W1.cell? ⟨w.heap.size, 1, none⟩ = some (.slice ea en ec) ∧ W1.cell? ⟨w.heap.size + 1, 0, none⟩ = some (.int .i64 a.x) ∧ W1.cell? ⟨w.heap.size + 1, 1, none⟩ = some (.int .i64 a.y) ∧ W1.cell? ⟨w.heap.size + 1 + 1, 0, none⟩ = some (.int .i64 b.x) ∧ W1.cell? ⟨w.heap.size + 1 + 1, 1, none⟩ = some (.int .i64 b.y) from by exact ⟨(hb.cell (p := ⟨w.heap.size, 0, none⟩) (by show w.heap.size < w.heap.size + 1 + 1 + 1; have := HWs.out; omega)).trans (by rw [← hW]; clear hW; go_simp), (hb.cell (p := ⟨w.heap.size, 1, none⟩) (by show w.heap.size < w.heap.size + 1 + 1 + 1; have := HWs.out; omega)).trans (by rw [← hW]; clear hW; go_simp), (hb.cell (p := ⟨w.heap.size + 1, 0, none⟩) (by show w.heap.size + 1 < w.heap.size + 1 + 1 + 1; have := HWs.out; omega)).trans (by rw [← hW]; clear hW; go_simp), (hb.cell (p := ⟨w.heap.size + 1, 1, none⟩) (by show w.heap.size + 1 < w.heap.size + 1 + 1 + 1; have := HWs.out; omega)).trans (by rw [← hW]; clear hW; go_simp), (hb.cell (p := ⟨w.heap.size + 1 + 1, 0, none⟩) (by show w.heap.size + 1 + 1 < w.heap.size + 1 + 1 + 1; have := HWs.out; omega)).trans (by rw [← hW]; clear hW; go_simp), (hb.cell (p := ⟨w.heap.size + 1 + 1, 1, none⟩) (by show w.heap.size + 1 + 1 < w.heap.size + 1 + 1 + 1; have := HWs.out; omega)).trans (by rw [← hW]; clear hW; go_simp)⟩)
  have HB := Lib.hid (Below.refl (w.heap.size + 1 + 1 + 1) W)
  obtain ⟨q1_0, q1_1, q1_2, q1_3, q1_4, q1_5⟩ := (HC _ HB.out).out
  have r1_0 := Nat.lt_of_lt_of_le (show w.heap.size < W.heap.size by have := HWs.out; omega) HB.out.size
  have r1_1 := Nat.lt_of_lt_of_le (show w.heap.size + 1 < W.heap.size by have := HWs.out; omega) HB.out.size
  have r1_2 := Nat.lt_of_lt_of_le (show w.heap.size + 1 + 1 < W.heap.size by have := HWs.out; omega) HB.out.size
  have HMM : Hid (AtMap W (w.heap.size + 1 + 1 + 1) 0 (vs.take 0)) := Lib.hid (by
    rw [← hW]
    have e : (((w.alloc (.cells #[.slice va vn vc, .slice ea en ec] 30)).alloc (ptC a)).alloc (ptC b)).heap.size = w.heap.size + 1 + 1 + 1 := by simp
    have := MapT.made (((w.alloc (.cells #[.slice va vn vc, .slice ea en ec] 30)).alloc (ptC a)).alloc (ptC b)) Try.prog 3 ekI ptV
    rw [e] at this
    exact this)
  clear hW
  go_wp2_with fail
  clear q1_0 q1_1 q1_2 q1_3 q1_4 q1_5 r1_0 r1_1 r1_2
  go_loopw [16] (fun v wr => ∃ k : Nat, k ≤ vn ∧ v = .int .i64 k ∧ AtMap wr (w.heap.size + 1 + 1 + 1) k (vs.take k) ∧ Below (w.heap.size + 1 + 1 + 1) W wr) (fun v _ => vn - (intOf v).toNat)
  case atStart => exact ⟨0, Nat.zero_le _, rfl, HMM.out, HB.out⟩
  case round =>
    clear HMM HB
    obtain ⟨k, hk, rfl, hmap, hb⟩ := hrel
    have HB := Lib.hid hb
    have HM := Lib.hid hmap
    clear hb hmap
    obtain ⟨q2_0, q2_1, q2_2, q2_3, q2_4, q2_5⟩ := (HC _ HB.out).out
    have r2_0 := Nat.lt_of_lt_of_le (show w.heap.size < W.heap.size by have := HWs.out; omega) HB.out.size
    have r2_1 := Nat.lt_of_lt_of_le (show w.heap.size + 1 < W.heap.size by have := HWs.out; omega) HB.out.size
    have r2_2 := Nat.lt_of_lt_of_le (show w.heap.size + 1 + 1 < W.heap.size by have := HWs.out; omega) HB.out.size
    by_cases hlt : k < vn
    · obtain ⟨vb, off, v, rfl, hvb, hv, e0, e1, e2⟩ := (HV.out.below (args_below HW.out HB.out hB (by have := HWs.out; omega))).at_ hlt
      have HVK := Lib.hid hv
      have hwf := (HF.out.vs v (List.mem_of_getElem? hv)).1
      have hkey := key_int v.id (wf_int hwf)
      have hnew : ∀ u ∈ vs.take k, u.id ≠ v.id := fun u hu => by
        obtain ⟨j, hj⟩ := List.mem_iff_getElem?.1 hu
        have hjk : j < k := by
          have := (List.getElem?_eq_some_iff.1 hj).1
          rw [List.length_take] at this; omega
        rw [List.getElem?_take_of_lt hjk] at hj
        have h1 := List.pairwise_iff_getElem.1 HP.out j k (List.getElem?_eq_some_iff.1 hj).1 (List.getElem?_eq_some_iff.1 hv).1 hjk
        rw [(List.getElem?_eq_some_iff.1 hj).2, (List.getElem?_eq_some_iff.1 hv).2] at h1
        exact h1
      have hsn := ptOf_snoc hnew
      rw [← take_snoc' hv] at hsn
      have HSN := Lib.hid hsn
      have HKEY := Lib.hid hkey
      clear hv hwf hnew hsn hkey
      have HM1 := Lib.hid (MapT.alloc HM.out (.cells #[.int .i64 v.id, .int .i64 v.at_.x, .int .i64 v.at_.y] 53))
      have HST := fun (w2 : World) (h : MapT w2 Try.prog 3 (w.heap.size + 1 + 1 + 1) (k + 1) ekI ptV (updT (ptOf (vs.take k)) v.id v.at_)) => Lib.hid (show AtMap w2 (w.heap.size + 1 + 1 + 1) (k + 1) (vs.take (k + 1)) by unfold AtMap; rw [HSN.out]; exact h)
      have HSZ : Hid (w.heap.size + 1 + 1 + 1 ≤ wr.heap.size + 1) := Lib.hid (by have h1 := HBW.out; have h2 := HB.out.size; omega)
      have HB1 := Lib.hid (HB.out.alloc (Nat.le_trans HBW.out HB.out.size) (.cells #[.int .i64 v.id, .int .i64 v.at_.x, .int .i64 v.at_.y] 53))
      go_wp2_with (at_mapUpdate; refine wpList_update_T _ rfl _ _ _ 100 rfl 3 51 Try.keyInt Try.underlying100 (w.heap.size + 1 + 1 + 1) k ekI ptV (ptOf (vs.take k)) HM1.out rfl (by unfold maxLen; omega) v.id _ rfl HKEY.out (ekI_inj _) v.at_ rfl ?_; intro w2 hm2 hg2; have HM2 := HST _ hm2; have HB2 := Lib.hid (below_grown HB1.out hg2 (by simpa using HSZ.out) (Nat.le_refl _)); clear hm2 hg2)
      go_roundw
      case rel => exact ⟨k + 1, by omega, by go_num, HM2.out, HB2.out⟩
      case measure => simp [intOf]; omega
    · obtain rfl : k = vn := by omega
      have HM0 := Lib.hid (show AtMap wr (w.heap.size + 1 + 1 + 1) k vs by have h1 := HM.out; rw [List.take_of_length_le (by have := HV.out.1; omega)] at h1; exact h1)
      clear HM
      go_wp2_with fail
      go_loopw [29] (fun v wr2 => ∃ j : Nat, j ≤ en ∧ v = .int .i64 j ∧ AtMap wr2 (w.heap.size + 1 + 1 + 1) k vs ∧ (∀ (i : Nat) (u : Ed), i < j → es[i]? = some u → meetB a b (ptZ vs u.a) (ptZ vs u.b) = false) ∧ Below (w.heap.size + 1 + 1 + 1) W wr2) (fun v _ => en - (intOf v).toNat)
      case atStart => exact ⟨0, Nat.zero_le _, rfl, HM0.out, fun j u hj => absurd hj (by omega), HB.out⟩
      case round =>
        clear HM0 HB
        obtain ⟨j, hj, rfl, hmap, hall, hb⟩ := hrel
        have HB := Lib.hid hb
        have HM := Lib.hid hmap
        have HA := Lib.hid hall
        clear hb hmap hall
        clear q2_0 q2_1 q2_2 q2_3 q2_4 q2_5 r2_0 r2_1 r2_2
        obtain ⟨q3_0, q3_1, q3_2, q3_3, q3_4, q3_5⟩ := (HC _ HB.out).out
        have r3_0 := Nat.lt_of_lt_of_le (show w.heap.size < W.heap.size by have := HWs.out; omega) HB.out.size
        have r3_1 := Nat.lt_of_lt_of_le (show w.heap.size + 1 < W.heap.size by have := HWs.out; omega) HB.out.size
        have r3_2 := Nat.lt_of_lt_of_le (show w.heap.size + 1 + 1 < W.heap.size by have := HWs.out; omega) HB.out.size
        by_cases hlj : j < en
        · obtain ⟨eb, off, e, rfl, heb, he, e0, e1, e2⟩ := (HE.out.below (args_below HW.out HB.out hB (by have := HWs.out; omega))).at_ hlj
          have HEK := Lib.hid he
          have hfe := HF.out.es e (List.mem_of_getElem? he)
          have HM1 : Hid (AtMap (wr.alloc (.cells #[.int .i64 e.id, .int .i64 e.a, .int .i64 e.b] 63)) (w.heap.size + 1 + 1 + 1) k vs) := Lib.hid (MapT.alloc HM.out _)
          have l1 := HM1.out.look e.a hfe.2.1
          have l2 := HM1.out.look e.b hfe.2.2
          have HON := fun w => Lib.hid (meet_any a b (ptZ vs e.a) (ptZ vs e.b) w)
          clear he hfe
          cases hon : meetB a b (ptZ vs e.a) (ptZ vs e.b)
          · rw [hon] at HON
            have HON1 := Lib.hid hon
            clear hon
            go_wp2_with fail
            refine ((HON _).out).mono ?_
            rintro e w4 ⟨rfl, hb4⟩
            have HB := Lib.hid (below_next (below_next HB.out (Nat.le_trans HBW.out HB.out.size) (by repeat (first | exact Below.refl _ _ | refine below_alloc ?_))) (by first | exact (Nat.le_trans HBW.out HB.out.size) | (simp; done) | (have h1 := HBW.out; have h2 := HB.out.size; simp; omega)) hb4)
            clear q3_0 q3_1 q3_2 q3_3 q3_4 q3_5 r3_0 r3_1 r3_2
            obtain ⟨q4_0, q4_1, q4_2, q4_3, q4_4, q4_5⟩ := (HC _ HB.out).out
            have HM2 := Lib.hid (MapT.below HM1.out hb4)
            clear hb4
            have r4_0 := Nat.lt_of_lt_of_le (show w.heap.size < W.heap.size by have := HWs.out; omega) HB.out.size
            have r4_1 := Nat.lt_of_lt_of_le (show w.heap.size + 1 < W.heap.size by have := HWs.out; omega) HB.out.size
            have r4_2 := Nat.lt_of_lt_of_le (show w.heap.size + 1 + 1 < W.heap.size by have := HWs.out; omega) HB.out.size
            go_wp2_with fail
            go_roundw
            case rel =>
              refine ⟨j + 1, by omega, by go_num, HM2.out, fun i u hi hu => ?_, HB.out⟩
              by_cases e : i = j
              · subst e; rw [HEK.out] at hu; cases hu; exact HON1.out
              · exact HA.out i u (by omega) hu
            case measure => simp [intOf]; omega
          · rw [hon] at HON
            have F := Lib.hid (show crossedB vs es a b = true from List.any_eq_true.2 ⟨e, List.mem_of_getElem? HEK.out, hon⟩)
            clear hon
            go_wp2_with fail
            refine ((HON _).out).mono ?_
            rintro e w5 ⟨rfl, hb5⟩
            have HB := Lib.hid (below_next (below_next HB.out (Nat.le_trans HBW.out HB.out.size) (by repeat (first | exact Below.refl _ _ | refine below_alloc ?_))) (by first | exact (Nat.le_trans HBW.out HB.out.size) | (simp; done) | (have h1 := HBW.out; have h2 := HB.out.size; simp; omega)) hb5)
            clear q3_0 q3_1 q3_2 q3_3 q3_4 q3_5 r3_0 r3_1 r3_2
            obtain ⟨q5_0, q5_1, q5_2, q5_3, q5_4, q5_5⟩ := (HC _ HB.out).out
            clear hb5
            have r5_0 := Nat.lt_of_lt_of_le (show w.heap.size < W.heap.size by have := HWs.out; omega) HB.out.size
            have r5_1 := Nat.lt_of_lt_of_le (show w.heap.size + 1 < W.heap.size by have := HWs.out; omega) HB.out.size
            have r5_2 := Nat.lt_of_lt_of_le (show w.heap.size + 1 + 1 < W.heap.size by have := HWs.out; omega) HB.out.size
            go_wp2_with fail
            go_ret
            exact ⟨by rw [F.out]; rfl, (HW.out.trans (HB.out.mono (by have := HWs.out; omega)))⟩
        · obtain rfl : j = en := by omega
          have F := Lib.hid (show crossedB vs es a b = false by
            unfold crossedB
            rw [List.any_eq_false]
            intro v hv
            obtain ⟨i, hi⟩ := List.mem_iff_getElem?.1 hv
            rw [HA.out i v (by have := (List.getElem?_eq_some_iff.1 hi).1; have := HE.out.1; omega) hi]
            decide)
          go_wp2_with fail
          go_ret
          exact ⟨by rw [F.out]; rfl, (HW.out.trans (HB.out.mono (by have := HWs.out; omega)))⟩
end Go.Proofs.Ythopjhifepijiaa
