/- The walk of Around. -/
import Derived.Test.YthopjhifepijiaaGeo3
namespace Go.Proofs.Ythopjhifepijiaa
open Go.RowKit
set_option linter.unusedVariables false
set_option maxRecDepth 100000 in
set_option maxHeartbeats 4000000 in
theorem around_any (o a b : Pt) (w : World) : Calls Try.prog 76 #[.agg #[.int .i64 o.x, .int .i64 o.y], .agg #[.int .i64 a.x, .int .i64 a.y], .agg #[.int .i64 b.x, .int .i64 b.y]] w fun e w' => e = .returned (.int .i64 (arnd o a b)) ∧ Below w.heap.size w w' := by
  have HALL := fun (W : World) (blk : Nat) (h : PtsAt W blk 0 [o, a, b]) (hb : blk < W.heap.size) => Lib.hid (all_any (c := 3) h (n := 3) rfl (by simp) hb)
  have e : [o, a, b].all inB = (inB o && inB a && inB b) := by simp [Bool.and_assoc]
  rw [e] at HALL
  clear e
  unfold arnd
  cases hv : inB o && inB a && inB b
  · rw [hv] at HALL
    simp only [Bool.not_false, Bool.true_or, if_true]
    clear hv
    go_enter Try.func76, Try.ntmps76
    go_wp2_with fail
    have HC := fun (W : World) hb => Lib.hid (box3 w o a b (W := W) hb)
    have HB := Lib.hid (box3_start w o a b)
    refine ((HALL _ _ (pts3 _ o a b (by simp)) (by simp)).out).mono ?_
    rintro e w1 ⟨rfl, hb1⟩
    have HB := Lib.hid (below_next (below_next HB.out HB.out.size (by repeat (first | exact Below.refl _ _ | refine below_alloc ?_))) (by first | exact HB.out.size | (simp; done) | (have := HB.out.size; simp at this ⊢; omega)) hb1)
    obtain ⟨q1_0, q1_1, q1_2, q1_3, q1_4, q1_5⟩ := (HC _ HB.out).out
    clear hb1
    go_wp2_with fail
    go_ret
    exact ⟨rfl, box_end HB.out (by repeat (first | exact Below.refl _ _ | refine below_alloc ?_))⟩
  · rw [hv] at HALL
    simp only [Bool.and_eq_true] at hv
    obtain ⟨⟨io, ia⟩, ib⟩ := hv
    simp only [Bool.not_true, Bool.false_or]
    cases hab : decide (a = o)
    · have r1 := eq_pt_f hab
      cases hcd : decide (b = o)
      · have r2 := eq_pt_f hcd
        simp only [Bool.or_false, Bool.false_eq_true, if_false]
        have hh1 := half_bd o a
        have hh2 := half_bd o b
        have hh3 := trn_bd o a b
        have H1 := fun w => Lib.hid (half_any o a w)
        have H2 := fun w => Lib.hid (half_any o b w)
        have T1 := fun w => Lib.hid (turn_in o a b w io ia ib)
        generalize halfI o a = h1 at *
        generalize halfI o b = h2 at *
        generalize trn o a b = t at *
        clear io ia ib hab hcd
        have e0 : IntKind.i64.wrap (h1 - h2) = h1 - h2 := IntWalk.i64_in _ (by omega)
        by_cases hz : h1 - h2 = 0
        · rw [if_neg (by simp [hz])]
          have z1 : ((h1 - h2) != 0) = false := by simp [hz]
          have z2 : ((h1 - h2) == 0) = true := by simp [hz]
          clear hz
          go_enter Try.func76, Try.ntmps76
          go_wp2_with fail
          have HC := fun (W : World) hb => Lib.hid (box3 w o a b (W := W) hb)
          have HB := Lib.hid (box3_start w o a b)
          refine ((HALL _ _ (pts3 _ o a b (by simp)) (by simp)).out).mono ?_
          rintro e w3 ⟨rfl, hb3⟩
          have HB := Lib.hid (below_next (below_next HB.out HB.out.size (by repeat (first | exact Below.refl _ _ | refine below_alloc ?_))) (by first | exact HB.out.size | (simp; done) | (have := HB.out.size; simp at this ⊢; omega)) hb3)
          obtain ⟨q3_0, q3_1, q3_2, q3_3, q3_4, q3_5⟩ := (HC _ HB.out).out
          clear hb3
          go_wp2_with fail
          refine wp_name (fun c4 hc4 => ?_)
          have HB := Lib.hid (below_name (below_next HB.out HB.out.size (by repeat (first | exact Below.refl _ _ | refine below_alloc ?_))) hc4)
          clear hc4
          have x4_0 := fun (x : Later c4) => (HC _ (below_next HB.out HB.out.size x.2)).out.1
          have x4_1 := fun (x : Later c4) => (HC _ (below_next HB.out HB.out.size x.2)).out.2.1
          have x4_2 := fun (x : Later c4) => (HC _ (below_next HB.out HB.out.size x.2)).out.2.2.1
          have x4_3 := fun (x : Later c4) => (HC _ (below_next HB.out HB.out.size x.2)).out.2.2.2.1
          have x4_4 := fun (x : Later c4) => (HC _ (below_next HB.out HB.out.size x.2)).out.2.2.2.2.1
          have x4_5 := fun (x : Later c4) => (HC _ (below_next HB.out HB.out.size x.2)).out.2.2.2.2.2
          refine wp_region_later (by kernel_rfl) (by kernel_rfl) ?_
          repeat (first | go_big_quiet_step (((first | (go_at_call 95; with_reducible refine Later.call (H1 _).out) | (go_at_call 95; with_reducible refine Later.call (H2 _).out)))) | quiet_step (((first | (go_at_call 95; with_reducible refine Later.call (H1 _).out) | (go_at_call 95; with_reducible refine Later.call (H2 _).out)))))
          refine wpQuiet_nil ?_
          intro w4 hw4
          have hb4 := later_below hw4
          clear hw4
          have HB := Lib.hid (below_next HB.out HB.out.size hb4)
          clear x4_0 x4_1 x4_2 x4_3 x4_4 x4_5
          clear q3_0 q3_1 q3_2 q3_3 q3_4 q3_5
          obtain ⟨q4_0, q4_1, q4_2, q4_3, q4_4, q4_5⟩ := (HC _ HB.out).out
          clear hb4
          go_wp2_with fail
          refine ((T1 _).out).mono ?_
          rintro e w5 ⟨rfl, hb5⟩
          have HB := Lib.hid (below_next (below_next HB.out HB.out.size (by repeat (first | exact Below.refl _ _ | refine below_alloc ?_))) (by first | exact HB.out.size | (simp; done) | (have := HB.out.size; simp at this ⊢; omega)) hb5)
          clear q4_0 q4_1 q4_2 q4_3 q4_4 q4_5
          obtain ⟨q5_0, q5_1, q5_2, q5_3, q5_4, q5_5⟩ := (HC _ HB.out).out
          clear hb5
          go_wp2_with fail
          go_ret
          exact ⟨rfl, box_end HB.out (by repeat (first | exact Below.refl _ _ | refine below_alloc ?_))⟩
        · rw [if_pos (by simpa using hz)]
          have z1 : ((h1 - h2) != 0) = true := by simp [hz]
          have z2 : ((h1 - h2) == 0) = false := by simp [hz]
          clear hz
          go_enter Try.func76, Try.ntmps76
          go_wp2_with fail
          have HC := fun (W : World) hb => Lib.hid (box3 w o a b (W := W) hb)
          have HB := Lib.hid (box3_start w o a b)
          refine ((HALL _ _ (pts3 _ o a b (by simp)) (by simp)).out).mono ?_
          rintro e w7 ⟨rfl, hb7⟩
          have HB := Lib.hid (below_next (below_next HB.out HB.out.size (by repeat (first | exact Below.refl _ _ | refine below_alloc ?_))) (by first | exact HB.out.size | (simp; done) | (have := HB.out.size; simp at this ⊢; omega)) hb7)
          obtain ⟨q7_0, q7_1, q7_2, q7_3, q7_4, q7_5⟩ := (HC _ HB.out).out
          clear hb7
          go_wp2_with fail
          refine wp_name (fun c8 hc8 => ?_)
          have HB := Lib.hid (below_name (below_next HB.out HB.out.size (by repeat (first | exact Below.refl _ _ | refine below_alloc ?_))) hc8)
          clear hc8
          have x8_0 := fun (x : Later c8) => (HC _ (below_next HB.out HB.out.size x.2)).out.1
          have x8_1 := fun (x : Later c8) => (HC _ (below_next HB.out HB.out.size x.2)).out.2.1
          have x8_2 := fun (x : Later c8) => (HC _ (below_next HB.out HB.out.size x.2)).out.2.2.1
          have x8_3 := fun (x : Later c8) => (HC _ (below_next HB.out HB.out.size x.2)).out.2.2.2.1
          have x8_4 := fun (x : Later c8) => (HC _ (below_next HB.out HB.out.size x.2)).out.2.2.2.2.1
          have x8_5 := fun (x : Later c8) => (HC _ (below_next HB.out HB.out.size x.2)).out.2.2.2.2.2
          refine wp_region_later (by kernel_rfl) (by kernel_rfl) ?_
          repeat (first | go_big_quiet_step (((first | (go_at_call 95; with_reducible refine Later.call (H1 _).out) | (go_at_call 95; with_reducible refine Later.call (H2 _).out)))) | quiet_step (((first | (go_at_call 95; with_reducible refine Later.call (H1 _).out) | (go_at_call 95; with_reducible refine Later.call (H2 _).out)))))
          refine wpQuiet_nil ?_
          intro w8 hw8
          have hb8 := later_below hw8
          clear hw8
          have HB := Lib.hid (below_next HB.out HB.out.size hb8)
          clear x8_0 x8_1 x8_2 x8_3 x8_4 x8_5
          clear q7_0 q7_1 q7_2 q7_3 q7_4 q7_5
          obtain ⟨q8_0, q8_1, q8_2, q8_3, q8_4, q8_5⟩ := (HC _ HB.out).out
          clear hb8
          go_wp2_with fail
          go_ret
          exact ⟨rfl, box_end HB.out (by repeat (first | exact Below.refl _ _ | refine below_alloc ?_))⟩
      · have r2 := eq_pt_t hcd
        simp only [Bool.or_true, if_true]
        clear hab hcd
        go_enter Try.func76, Try.ntmps76
        go_wp2_with fail
        have HC := fun (W : World) hb => Lib.hid (box3 w o a b (W := W) hb)
        have HB := Lib.hid (box3_start w o a b)
        refine ((HALL _ _ (pts3 _ o a b (by simp)) (by simp)).out).mono ?_
        rintro e w10 ⟨rfl, hb10⟩
        have HB := Lib.hid (below_next (below_next HB.out HB.out.size (by repeat (first | exact Below.refl _ _ | refine below_alloc ?_))) (by first | exact HB.out.size | (simp; done) | (have := HB.out.size; simp at this ⊢; omega)) hb10)
        obtain ⟨q10_0, q10_1, q10_2, q10_3, q10_4, q10_5⟩ := (HC _ HB.out).out
        clear hb10
        go_wp2_with fail
        go_ret
        exact ⟨rfl, box_end HB.out (by repeat (first | exact Below.refl _ _ | refine below_alloc ?_))⟩
    · have r1 := eq_pt_t hab
      simp only [Bool.true_or, if_true]
      clear hab
      go_enter Try.func76, Try.ntmps76
      go_wp2_with fail
      have HC := fun (W : World) hb => Lib.hid (box3 w o a b (W := W) hb)
      have HB := Lib.hid (box3_start w o a b)
      refine ((HALL _ _ (pts3 _ o a b (by simp)) (by simp)).out).mono ?_
      rintro e w12 ⟨rfl, hb12⟩
      have HB := Lib.hid (below_next (below_next HB.out HB.out.size (by repeat (first | exact Below.refl _ _ | refine below_alloc ?_))) (by first | exact HB.out.size | (simp; done) | (have := HB.out.size; simp at this ⊢; omega)) hb12)
      obtain ⟨q12_0, q12_1, q12_2, q12_3, q12_4, q12_5⟩ := (HC _ HB.out).out
      clear hb12
      go_wp2_with fail
      go_ret
      exact ⟨rfl, box_end HB.out (by repeat (first | exact Below.refl _ _ | refine below_alloc ?_))⟩
end Go.Proofs.Ythopjhifepijiaa
