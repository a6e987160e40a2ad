/- Lemmas on the way to the statement. -/
import Derived.Test.YthopjhifepijiaaJ1
set_option linter.unusedSimpArgs false
set_option linter.unusedVariables false
namespace Go.Proofs.Ythopjhifepijiaa
open Go.RowKit
set_option maxRecDepth 100000 in
theorem half_any (o a:Pt) (w:World):Calls Try.prog 95 #[.agg #[.int .i64 o.x, .int .i64 o.y], .agg #[.int .i64 a.x, .int .i64 a.y]] w fun e w'=>e= .returned (.int .i64 (halfI o a))∧Below w.heap.size w w':=by
 obtain⟨v,hv⟩: ∃v,v=halfI o a:=⟨_,rfl⟩
 rw[←hv]
 have hc:(v=0∧o.y<a.y)∨(v=0∧ ¬o.y<a.y∧(a.y==o.y)=true∧o.x<a.x)∨(v=1∧ ¬o.y<a.y∧(a.y==o.y)=true∧ ¬o.x<a.x)∨(v=1∧ ¬o.y<a.y∧(a.y==o.y)=false):=by
  rw[hv]
  simp only[beq_iff_eq,beq_eq_false_iff_ne]
  unfold halfI
  split<;>omega
 clear hv
 rcases hc with ⟨rfl,h1⟩|⟨rfl,h1,h2,h3⟩|⟨rfl,h1,h2,h3⟩|⟨rfl,h1,h2⟩
 all_goals
  go_enter Try.func95,Try.ntmps95
  go_wp2_with fail
  go_ret
  exact⟨rfl,below_alloc (below_alloc (Below.refl _ _))⟩
theorem trn_mul (a b c d e f:Pt): -1≤trn a b c*trn d e f∧trn a b c*trn d e f≤1:=by
 have h1:=trn_bd a b c
 have h2:=trn_bd d e f
 have:=mul_bd (M:=1) (N:=1) h1.1 h1.2 h2.1 h2.2
 omega
set_option maxRecDepth 100000 in
set_option maxHeartbeats 8000000 in
theorem meet_any (a b c d:Pt) (w:World):Calls Try.prog 73 #[.agg #[.int .i64 a.x, .int .i64 a.y], .agg #[.int .i64 b.x, .int .i64 b.y], .agg #[.int .i64 c.x, .int .i64 c.y], .agg #[.int .i64 d.x, .int .i64 d.y]] w fun e w'=>e= .returned (.bool (meetB a b c d))∧Below w.heap.size w w':=by
 have HALL:=fun(W:World) (blk:Nat) (h:PtsAt W blk 0 [a,b,c,d]) (hb:blk<W.heap.size)=>Lib.hid (all_any (c:=4) h (n:=4) rfl (by simp) hb)
 have e:[a,b,c,d].all inB=(inB a&&inB b&&inB c&&inB d):=by simp[Bool.and_assoc]
 rw[e] at HALL
 clear e
 unfold meetB
 cases hv:inB a&&inB b&&inB c&&inB d
 ·rw[hv] at HALL
  simp only[Bool.not_false,Bool.true_or,if_true]
  clear hv
  go_enter Try.func73,Try.ntmps73
  go_wp2_with fail
  have HC:=fun(W:World) hb=>Lib.hid (box4 w a b c d (W:=W) hb)
  have HB:=Lib.hid (box4_start w a b c d)
  refine((HALL _ _ (pts4 _ a b c d (by simp)) (by simp)).out).mono ?_
  rintro e w1 ⟨rfl,hb1⟩
  have HB:=Lib.hid (below_next (below_next HB.out HB.out.size (by repeat (first|exact Below.refl _ _|refine below_alloc ?_))) (by first|exact HB.out.size|(simp;done)|(have:=HB.out.size;simp at this ⊢;omega)) hb1)
  obtain⟨q1_0,q1_1,q1_2,q1_3,q1_4,q1_5,q1_6,q1_7⟩:=(HC _ HB.out).out
  clear hb1
  go_wp2_with fail
  go_ret
  exact⟨rfl,box_end HB.out (by repeat (first|exact Below.refl _ _|refine below_alloc ?_))⟩
 ·rw[hv] at HALL
  simp only[Bool.and_eq_true] at hv
  obtain⟨⟨⟨ia,ib⟩,ic⟩,id⟩:=hv
  simp only[Bool.not_true,Bool.false_or]
  cases hab:decide (a=b)
  ·have r1:=eq_pt_f hab
   cases hcd:decide (c=d)
   ·have r2:=eq_pt_f hcd
    simp only[Bool.or_false,Bool.false_eq_true,if_false]
    have H1:=fun w=>Lib.hid (on_any a c d w)
    have H2:=fun w=>Lib.hid (on_any b c d w)
    have H3:=fun w=>Lib.hid (on_any c a b w)
    have H4:=fun w=>Lib.hid (on_any d a b w)
    have T1:=fun w=>Lib.hid (turn_in a b c w ia ib ic)
    have T2:=fun w=>Lib.hid (turn_in a b d w ia ib id)
    have T3:=fun w=>Lib.hid (turn_in c d a w ic id ia)
    have T4:=fun w=>Lib.hid (turn_in c d b w ic id ib)
    have hne: ¬(decide (a=c)=true∧decide (a=d)=true):=by simp at hcd ⊢;intro h1 h2;exact hcd (h1.symm.trans h2)
    generalize onB a c d=o1 at*
    generalize onB b c d=o2 at*
    generalize onB c a b=o3 at*
    generalize onB d a b=o4 at*
    clear ia ib ic id hab hcd
    cases o1
    ·cases o2
     ·cases o3
      ·cases o4
       ·simp only[Bool.or_false,Bool.false_eq_true,if_false]
        cases hac:decide (a=c)
        ·have r3:=eq_pt_f hac
         cases had:decide (a=d)
         ·have r4:=eq_pt_f had
          simp only[Bool.false_and,Bool.or_false,Bool.false_eq_true,if_false]
          clear hac had hne
          have hp:=trn_mul a b c a b d
          have hq:=trn_mul c d a c d b
          generalize trn a b c=t1 at*
          generalize trn a b d=t2 at*
          generalize trn c d a=t3 at*
          generalize trn c d b=t4 at*
          obtain⟨p1,hpp⟩: ∃p1,p1=t1*t2:=⟨_,rfl⟩
          obtain⟨p2,hqq⟩: ∃p2,p2=t3*t4:=⟨_,rfl⟩
          have hw1:wrap64 (t1*t2)=p1:=by rw[←hpp];exact IntWalk.wrap64_in _ ⟨by omega,by omega⟩
          have hw2:wrap64 (t3*t4)=p2:=by rw[←hqq];exact IntWalk.wrap64_in _ ⟨by omega,by omega⟩
          have hv1:IntKind.i64.wrap (t1*t2)=p1:=by rw[←hpp];exact IntWalk.i64_in _ (by omega)
          have hv2:IntKind.i64.wrap (t3*t4)=p2:=by rw[←hqq];exact IntWalk.i64_in _ (by omega)
          rw[←hpp, ←hqq]
          clear hpp hqq hp hq
          by_cases hp0:p1<0
          ·by_cases hq0:p2<0
           ·have dp:=decide_eq_true hp0
            have dq:=decide_eq_true hq0
            rw[dp,dq]
            go_enter Try.func73,Try.ntmps73
            go_wp2_with fail
            have HC:=fun(W:World) hb=>Lib.hid (box4 w a b c d (W:=W) hb)
            have HB:=Lib.hid (box4_start w a b c d)
            refine((HALL _ _ (pts4 _ a b c d (by simp)) (by simp)).out).mono ?_
            rintro e w3 ⟨rfl,hb3⟩
            have HB:=Lib.hid (below_next (below_next HB.out HB.out.size (by repeat (first|exact Below.refl _ _|refine below_alloc ?_))) (by first|exact HB.out.size|(simp;done)|(have:=HB.out.size;simp at this ⊢;omega)) hb3)
            obtain⟨q3_0,q3_1,q3_2,q3_3,q3_4,q3_5,q3_6,q3_7⟩:=(HC _ HB.out).out
            clear hb3
            go_wp2_with fail
            refine((H1 _).out).mono ?_
            rintro e w4 ⟨rfl,hb4⟩
            have HB:=Lib.hid (below_next (below_next HB.out HB.out.size (by repeat (first|exact Below.refl _ _|refine below_alloc ?_))) (by first|exact HB.out.size|(simp;done)|(have:=HB.out.size;simp at this ⊢;omega)) hb4)
            clear q3_0 q3_1 q3_2 q3_3 q3_4 q3_5 q3_6 q3_7
            obtain⟨q4_0,q4_1,q4_2,q4_3,q4_4,q4_5,q4_6,q4_7⟩:=(HC _ HB.out).out
            clear hb4
            go_wp2_with fail
            refine((H2 _).out).mono ?_
            rintro e w5 ⟨rfl,hb5⟩
            have HB:=Lib.hid (below_next (below_next HB.out HB.out.size (by repeat (first|exact Below.refl _ _|refine below_alloc ?_))) (by first|exact HB.out.size|(simp;done)|(have:=HB.out.size;simp at this ⊢;omega)) hb5)
            clear q4_0 q4_1 q4_2 q4_3 q4_4 q4_5 q4_6 q4_7
            obtain⟨q5_0,q5_1,q5_2,q5_3,q5_4,q5_5,q5_6,q5_7⟩:=(HC _ HB.out).out
            clear hb5
            go_wp2_with fail
            refine((H3 _).out).mono ?_
            rintro e w6 ⟨rfl,hb6⟩
            have HB:=Lib.hid (below_next (below_next HB.out HB.out.size (by repeat (first|exact Below.refl _ _|refine below_alloc ?_))) (by first|exact HB.out.size|(simp;done)|(have:=HB.out.size;simp at this ⊢;omega)) hb6)
            clear q5_0 q5_1 q5_2 q5_3 q5_4 q5_5 q5_6 q5_7
            obtain⟨q6_0,q6_1,q6_2,q6_3,q6_4,q6_5,q6_6,q6_7⟩:=(HC _ HB.out).out
            clear hb6
            go_wp2_with fail
            refine((H4 _).out).mono ?_
            rintro e w7 ⟨rfl,hb7⟩
            have HB:=Lib.hid (below_next (below_next HB.out HB.out.size (by repeat (first|exact Below.refl _ _|refine below_alloc ?_))) (by first|exact HB.out.size|(simp;done)|(have:=HB.out.size;simp at this ⊢;omega)) hb7)
            clear q6_0 q6_1 q6_2 q6_3 q6_4 q6_5 q6_6 q6_7
            obtain⟨q7_0,q7_1,q7_2,q7_3,q7_4,q7_5,q7_6,q7_7⟩:=(HC _ HB.out).out
            clear hb7
            go_wp2_with fail
            refine wp_name (fun c8 hc8=> ?_)
            have HB:=Lib.hid (below_name (below_next HB.out HB.out.size (by repeat (first|exact Below.refl _ _|refine below_alloc ?_))) hc8)
            clear hc8
            have x8_0:=fun(x:Later c8)=>(HC _ (below_next HB.out HB.out.size x.2)).out.1
            have x8_1:=fun(x:Later c8)=>(HC _ (below_next HB.out HB.out.size x.2)).out.2.1
            have x8_2:=fun(x:Later c8)=>(HC _ (below_next HB.out HB.out.size x.2)).out.2.2.1
            have x8_3:=fun(x:Later c8)=>(HC _ (below_next HB.out HB.out.size x.2)).out.2.2.2.1
            have x8_4:=fun(x:Later c8)=>(HC _ (below_next HB.out HB.out.size x.2)).out.2.2.2.2.1
            have x8_5:=fun(x:Later c8)=>(HC _ (below_next HB.out HB.out.size x.2)).out.2.2.2.2.2.1
            have x8_6:=fun(x:Later c8)=>(HC _ (below_next HB.out HB.out.size x.2)).out.2.2.2.2.2.2.1
            have x8_7:=fun(x:Later c8)=>(HC _ (below_next HB.out HB.out.size x.2)).out.2.2.2.2.2.2.2
            refine wp_region_later (by kernel_rfl) (by kernel_rfl) ?_
            repeat (first|go_big_quiet_step (((first|(go_at_call 87;with_reducible refine Later.call (T1 _).out)|(go_at_call 87;with_reducible refine Later.call (T2 _).out)|(go_at_call 87;with_reducible refine Later.call (T3 _).out)|(go_at_call 87;with_reducible refine Later.call (T4 _).out))))|quiet_step (((first|(go_at_call 87;with_reducible refine Later.call (T1 _).out)|(go_at_call 87;with_reducible refine Later.call (T2 _).out)|(go_at_call 87;with_reducible refine Later.call (T3 _).out)|(go_at_call 87;with_reducible refine Later.call (T4 _).out)))))
            refine wpQuiet_nil ?_
            intro w8 hw8
            have hb8:=later_below hw8
            clear hw8
            have HB:=Lib.hid (below_next HB.out HB.out.size hb8)
            clear x8_0 x8_1 x8_2 x8_3 x8_4 x8_5 x8_6 x8_7
            clear q7_0 q7_1 q7_2 q7_3 q7_4 q7_5 q7_6 q7_7
            obtain⟨q8_0,q8_1,q8_2,q8_3,q8_4,q8_5,q8_6,q8_7⟩:=(HC _ HB.out).out
            clear hb8
            go_wp2_with fail
            go_ret
            exact⟨rfl,box_end HB.out (by repeat (first|exact Below.refl _ _|refine below_alloc ?_))⟩
           ·have dp:=decide_eq_true hp0
            have dq:=decide_eq_false hq0
            rw[dp,dq]
            go_enter Try.func73,Try.ntmps73
            go_wp2_with fail
            have HC:=fun(W:World) hb=>Lib.hid (box4 w a b c d (W:=W) hb)
            have HB:=Lib.hid (box4_start w a b c d)
            refine((HALL _ _ (pts4 _ a b c d (by simp)) (by simp)).out).mono ?_
            rintro e w10 ⟨rfl,hb10⟩
            have HB:=Lib.hid (below_next (below_next HB.out HB.out.size (by repeat (first|exact Below.refl _ _|refine below_alloc ?_))) (by first|exact HB.out.size|(simp;done)|(have:=HB.out.size;simp at this ⊢;omega)) hb10)
            obtain⟨q10_0,q10_1,q10_2,q10_3,q10_4,q10_5,q10_6,q10_7⟩:=(HC _ HB.out).out
            clear hb10
            go_wp2_with fail
            refine((H1 _).out).mono ?_
            rintro e w11 ⟨rfl,hb11⟩
            have HB:=Lib.hid (below_next (below_next HB.out HB.out.size (by repeat (first|exact Below.refl _ _|refine below_alloc ?_))) (by first|exact HB.out.size|(simp;done)|(have:=HB.out.size;simp at this ⊢;omega)) hb11)
            clear q10_0 q10_1 q10_2 q10_3 q10_4 q10_5 q10_6 q10_7
            obtain⟨q11_0,q11_1,q11_2,q11_3,q11_4,q11_5,q11_6,q11_7⟩:=(HC _ HB.out).out
            clear hb11
            go_wp2_with fail
            refine((H2 _).out).mono ?_
            rintro e w12 ⟨rfl,hb12⟩
            have HB:=Lib.hid (below_next (below_next HB.out HB.out.size (by repeat (first|exact Below.refl _ _|refine below_alloc ?_))) (by first|exact HB.out.size|(simp;done)|(have:=HB.out.size;simp at this ⊢;omega)) hb12)
            clear q11_0 q11_1 q11_2 q11_3 q11_4 q11_5 q11_6 q11_7
            obtain⟨q12_0,q12_1,q12_2,q12_3,q12_4,q12_5,q12_6,q12_7⟩:=(HC _ HB.out).out
            clear hb12
            go_wp2_with fail
            refine((H3 _).out).mono ?_
            rintro e w13 ⟨rfl,hb13⟩
            have HB:=Lib.hid (below_next (below_next HB.out HB.out.size (by repeat (first|exact Below.refl _ _|refine below_alloc ?_))) (by first|exact HB.out.size|(simp;done)|(have:=HB.out.size;simp at this ⊢;omega)) hb13)
            clear q12_0 q12_1 q12_2 q12_3 q12_4 q12_5 q12_6 q12_7
            obtain⟨q13_0,q13_1,q13_2,q13_3,q13_4,q13_5,q13_6,q13_7⟩:=(HC _ HB.out).out
            clear hb13
            go_wp2_with fail
            refine((H4 _).out).mono ?_
            rintro e w14 ⟨rfl,hb14⟩
            have HB:=Lib.hid (below_next (below_next HB.out HB.out.size (by repeat (first|exact Below.refl _ _|refine below_alloc ?_))) (by first|exact HB.out.size|(simp;done)|(have:=HB.out.size;simp at this ⊢;omega)) hb14)
            clear q13_0 q13_1 q13_2 q13_3 q13_4 q13_5 q13_6 q13_7
            obtain⟨q14_0,q14_1,q14_2,q14_3,q14_4,q14_5,q14_6,q14_7⟩:=(HC _ HB.out).out
            clear hb14
            go_wp2_with fail
            refine wp_name (fun c15 hc15=> ?_)
            have HB:=Lib.hid (below_name (below_next HB.out HB.out.size (by repeat (first|exact Below.refl _ _|refine below_alloc ?_))) hc15)
            clear hc15
            have x15_0:=fun(x:Later c15)=>(HC _ (below_next HB.out HB.out.size x.2)).out.1
            have x15_1:=fun(x:Later c15)=>(HC _ (below_next HB.out HB.out.size x.2)).out.2.1
            have x15_2:=fun(x:Later c15)=>(HC _ (below_next HB.out HB.out.size x.2)).out.2.2.1
            have x15_3:=fun(x:Later c15)=>(HC _ (below_next HB.out HB.out.size x.2)).out.2.2.2.1
            have x15_4:=fun(x:Later c15)=>(HC _ (below_next HB.out HB.out.size x.2)).out.2.2.2.2.1
            have x15_5:=fun(x:Later c15)=>(HC _ (below_next HB.out HB.out.size x.2)).out.2.2.2.2.2.1
            have x15_6:=fun(x:Later c15)=>(HC _ (below_next HB.out HB.out.size x.2)).out.2.2.2.2.2.2.1
            have x15_7:=fun(x:Later c15)=>(HC _ (below_next HB.out HB.out.size x.2)).out.2.2.2.2.2.2.2
            refine wp_region_later (by kernel_rfl) (by kernel_rfl) ?_
            repeat (first|go_big_quiet_step (((first|(go_at_call 87;with_reducible refine Later.call (T1 _).out)|(go_at_call 87;with_reducible refine Later.call (T2 _).out)|(go_at_call 87;with_reducible refine Later.call (T3 _).out)|(go_at_call 87;with_reducible refine Later.call (T4 _).out))))|quiet_step (((first|(go_at_call 87;with_reducible refine Later.call (T1 _).out)|(go_at_call 87;with_reducible refine Later.call (T2 _).out)|(go_at_call 87;with_reducible refine Later.call (T3 _).out)|(go_at_call 87;with_reducible refine Later.call (T4 _).out)))))
            refine wpQuiet_nil ?_
            intro w15 hw15
            have hb15:=later_below hw15
            clear hw15
            have HB:=Lib.hid (below_next HB.out HB.out.size hb15)
            clear x15_0 x15_1 x15_2 x15_3 x15_4 x15_5 x15_6 x15_7
            clear q14_0 q14_1 q14_2 q14_3 q14_4 q14_5 q14_6 q14_7
            obtain⟨q15_0,q15_1,q15_2,q15_3,q15_4,q15_5,q15_6,q15_7⟩:=(HC _ HB.out).out
            clear hb15
            go_wp2_with fail
            go_ret
            exact⟨rfl,box_end HB.out (by repeat (first|exact Below.refl _ _|refine below_alloc ?_))⟩
          ·have dp:=decide_eq_false hp0
           rw[dp,Bool.false_and]
           go_enter Try.func73,Try.ntmps73
           go_wp2_with fail
           have HC:=fun(W:World) hb=>Lib.hid (box4 w a b c d (W:=W) hb)
           have HB:=Lib.hid (box4_start w a b c d)
           refine((HALL _ _ (pts4 _ a b c d (by simp)) (by simp)).out).mono ?_
           rintro e w17 ⟨rfl,hb17⟩
           have HB:=Lib.hid (below_next (below_next HB.out HB.out.size (by repeat (first|exact Below.refl _ _|refine below_alloc ?_))) (by first|exact HB.out.size|(simp;done)|(have:=HB.out.size;simp at this ⊢;omega)) hb17)
           obtain⟨q17_0,q17_1,q17_2,q17_3,q17_4,q17_5,q17_6,q17_7⟩:=(HC _ HB.out).out
           clear hb17
           go_wp2_with fail
           refine((H1 _).out).mono ?_
           rintro e w18 ⟨rfl,hb18⟩
           have HB:=Lib.hid (below_next (below_next HB.out HB.out.size (by repeat (first|exact Below.refl _ _|refine below_alloc ?_))) (by first|exact HB.out.size|(simp;done)|(have:=HB.out.size;simp at this ⊢;omega)) hb18)
           clear q17_0 q17_1 q17_2 q17_3 q17_4 q17_5 q17_6 q17_7
           obtain⟨q18_0,q18_1,q18_2,q18_3,q18_4,q18_5,q18_6,q18_7⟩:=(HC _ HB.out).out
           clear hb18
           go_wp2_with fail
           refine((H2 _).out).mono ?_
           rintro e w19 ⟨rfl,hb19⟩
           have HB:=Lib.hid (below_next (below_next HB.out HB.out.size (by repeat (first|exact Below.refl _ _|refine below_alloc ?_))) (by first|exact HB.out.size|(simp;done)|(have:=HB.out.size;simp at this ⊢;omega)) hb19)
           clear q18_0 q18_1 q18_2 q18_3 q18_4 q18_5 q18_6 q18_7
           obtain⟨q19_0,q19_1,q19_2,q19_3,q19_4,q19_5,q19_6,q19_7⟩:=(HC _ HB.out).out
           clear hb19
           go_wp2_with fail
           refine((H3 _).out).mono ?_
           rintro e w20 ⟨rfl,hb20⟩
           have HB:=Lib.hid (below_next (below_next HB.out HB.out.size (by repeat (first|exact Below.refl _ _|refine below_alloc ?_))) (by first|exact HB.out.size|(simp;done)|(have:=HB.out.size;simp at this ⊢;omega)) hb20)
           clear q19_0 q19_1 q19_2 q19_3 q19_4 q19_5 q19_6 q19_7
           obtain⟨q20_0,q20_1,q20_2,q20_3,q20_4,q20_5,q20_6,q20_7⟩:=(HC _ HB.out).out
           clear hb20
           go_wp2_with fail
           refine((H4 _).out).mono ?_
           rintro e w21 ⟨rfl,hb21⟩
           have HB:=Lib.hid (below_next (below_next HB.out HB.out.size (by repeat (first|exact Below.refl _ _|refine below_alloc ?_))) (by first|exact HB.out.size|(simp;done)|(have:=HB.out.size;simp at this ⊢;omega)) hb21)
           clear q20_0 q20_1 q20_2 q20_3 q20_4 q20_5 q20_6 q20_7
           obtain⟨q21_0,q21_1,q21_2,q21_3,q21_4,q21_5,q21_6,q21_7⟩:=(HC _ HB.out).out
           clear hb21
           go_wp2_with fail
           refine wp_name (fun c22 hc22=> ?_)
           have HB:=Lib.hid (below_name (below_next HB.out HB.out.size (by repeat (first|exact Below.refl _ _|refine below_alloc ?_))) hc22)
           clear hc22
           have x22_0:=fun(x:Later c22)=>(HC _ (below_next HB.out HB.out.size x.2)).out.1
           have x22_1:=fun(x:Later c22)=>(HC _ (below_next HB.out HB.out.size x.2)).out.2.1
           have x22_2:=fun(x:Later c22)=>(HC _ (below_next HB.out HB.out.size x.2)).out.2.2.1
           have x22_3:=fun(x:Later c22)=>(HC _ (below_next HB.out HB.out.size x.2)).out.2.2.2.1
           have x22_4:=fun(x:Later c22)=>(HC _ (below_next HB.out HB.out.size x.2)).out.2.2.2.2.1
           have x22_5:=fun(x:Later c22)=>(HC _ (below_next HB.out HB.out.size x.2)).out.2.2.2.2.2.1
           have x22_6:=fun(x:Later c22)=>(HC _ (below_next HB.out HB.out.size x.2)).out.2.2.2.2.2.2.1
           have x22_7:=fun(x:Later c22)=>(HC _ (below_next HB.out HB.out.size x.2)).out.2.2.2.2.2.2.2
           refine wp_region_later (by kernel_rfl) (by kernel_rfl) ?_
           repeat (first|go_big_quiet_step (((first|(go_at_call 87;with_reducible refine Later.call (T1 _).out)|(go_at_call 87;with_reducible refine Later.call (T2 _).out)|(go_at_call 87;with_reducible refine Later.call (T3 _).out)|(go_at_call 87;with_reducible refine Later.call (T4 _).out))))|quiet_step (((first|(go_at_call 87;with_reducible refine Later.call (T1 _).out)|(go_at_call 87;with_reducible refine Later.call (T2 _).out)|(go_at_call 87;with_reducible refine Later.call (T3 _).out)|(go_at_call 87;with_reducible refine Later.call (T4 _).out)))))
           refine wpQuiet_nil ?_
           intro w22 hw22
           have hb22:=later_below hw22
           clear hw22
           have HB:=Lib.hid (below_next HB.out HB.out.size hb22)
           clear x22_0 x22_1 x22_2 x22_3 x22_4 x22_5 x22_6 x22_7
           clear q21_0 q21_1 q21_2 q21_3 q21_4 q21_5 q21_6 q21_7
           obtain⟨q22_0,q22_1,q22_2,q22_3,q22_4,q22_5,q22_6,q22_7⟩:=(HC _ HB.out).out
           clear hb22
           go_wp2_with fail
           go_ret
           exact⟨rfl,box_end HB.out (by repeat (first|exact Below.refl _ _|refine below_alloc ?_))⟩
         ·have r4:=eq_pt_t had
          cases hbc:decide (b=c)
          ·have r5:=eq_pt_f hbc
           simp only[Bool.false_and,Bool.and_false,Bool.or_false,Bool.false_eq_true,if_false]
           clear hac had hne hbc
           have hp:=trn_mul a b c a b d
           have hq:=trn_mul c d a c d b
           generalize trn a b c=t1 at*
           generalize trn a b d=t2 at*
           generalize trn c d a=t3 at*
           generalize trn c d b=t4 at*
           obtain⟨p1,hpp⟩: ∃p1,p1=t1*t2:=⟨_,rfl⟩
           obtain⟨p2,hqq⟩: ∃p2,p2=t3*t4:=⟨_,rfl⟩
           have hw1:wrap64 (t1*t2)=p1:=by rw[←hpp];exact IntWalk.wrap64_in _ ⟨by omega,by omega⟩
           have hw2:wrap64 (t3*t4)=p2:=by rw[←hqq];exact IntWalk.wrap64_in _ ⟨by omega,by omega⟩
           have hv1:IntKind.i64.wrap (t1*t2)=p1:=by rw[←hpp];exact IntWalk.i64_in _ (by omega)
           have hv2:IntKind.i64.wrap (t3*t4)=p2:=by rw[←hqq];exact IntWalk.i64_in _ (by omega)
           rw[←hpp, ←hqq]
           clear hpp hqq hp hq
           by_cases hp0:p1<0
           ·by_cases hq0:p2<0
            ·have dp:=decide_eq_true hp0
             have dq:=decide_eq_true hq0
             rw[dp,dq]
             go_enter Try.func73,Try.ntmps73
             go_wp2_with fail
             have HC:=fun(W:World) hb=>Lib.hid (box4 w a b c d (W:=W) hb)
             have HB:=Lib.hid (box4_start w a b c d)
             refine((HALL _ _ (pts4 _ a b c d (by simp)) (by simp)).out).mono ?_
             rintro e w24 ⟨rfl,hb24⟩
             have HB:=Lib.hid (below_next (below_next HB.out HB.out.size (by repeat (first|exact Below.refl _ _|refine below_alloc ?_))) (by first|exact HB.out.size|(simp;done)|(have:=HB.out.size;simp at this ⊢;omega)) hb24)
             obtain⟨q24_0,q24_1,q24_2,q24_3,q24_4,q24_5,q24_6,q24_7⟩:=(HC _ HB.out).out
             clear hb24
             go_wp2_with fail
             refine((H1 _).out).mono ?_
             rintro e w25 ⟨rfl,hb25⟩
             have HB:=Lib.hid (below_next (below_next HB.out HB.out.size (by repeat (first|exact Below.refl _ _|refine below_alloc ?_))) (by first|exact HB.out.size|(simp;done)|(have:=HB.out.size;simp at this ⊢;omega)) hb25)
             clear q24_0 q24_1 q24_2 q24_3 q24_4 q24_5 q24_6 q24_7
             obtain⟨q25_0,q25_1,q25_2,q25_3,q25_4,q25_5,q25_6,q25_7⟩:=(HC _ HB.out).out
             clear hb25
             go_wp2_with fail
             refine((H2 _).out).mono ?_
             rintro e w26 ⟨rfl,hb26⟩
             have HB:=Lib.hid (below_next (below_next HB.out HB.out.size (by repeat (first|exact Below.refl _ _|refine below_alloc ?_))) (by first|exact HB.out.size|(simp;done)|(have:=HB.out.size;simp at this ⊢;omega)) hb26)
             clear q25_0 q25_1 q25_2 q25_3 q25_4 q25_5 q25_6 q25_7
             obtain⟨q26_0,q26_1,q26_2,q26_3,q26_4,q26_5,q26_6,q26_7⟩:=(HC _ HB.out).out
             clear hb26
             go_wp2_with fail
             refine((H3 _).out).mono ?_
             rintro e w27 ⟨rfl,hb27⟩
             have HB:=Lib.hid (below_next (below_next HB.out HB.out.size (by repeat (first|exact Below.refl _ _|refine below_alloc ?_))) (by first|exact HB.out.size|(simp;done)|(have:=HB.out.size;simp at this ⊢;omega)) hb27)
             clear q26_0 q26_1 q26_2 q26_3 q26_4 q26_5 q26_6 q26_7
             obtain⟨q27_0,q27_1,q27_2,q27_3,q27_4,q27_5,q27_6,q27_7⟩:=(HC _ HB.out).out
             clear hb27
             go_wp2_with fail
             refine((H4 _).out).mono ?_
             rintro e w28 ⟨rfl,hb28⟩
             have HB:=Lib.hid (below_next (below_next HB.out HB.out.size (by repeat (first|exact Below.refl _ _|refine below_alloc ?_))) (by first|exact HB.out.size|(simp;done)|(have:=HB.out.size;simp at this ⊢;omega)) hb28)
             clear q27_0 q27_1 q27_2 q27_3 q27_4 q27_5 q27_6 q27_7
             obtain⟨q28_0,q28_1,q28_2,q28_3,q28_4,q28_5,q28_6,q28_7⟩:=(HC _ HB.out).out
             clear hb28
             go_wp2_with fail
             refine wp_name (fun c29 hc29=> ?_)
             have HB:=Lib.hid (below_name (below_next HB.out HB.out.size (by repeat (first|exact Below.refl _ _|refine below_alloc ?_))) hc29)
             clear hc29
             have x29_0:=fun(x:Later c29)=>(HC _ (below_next HB.out HB.out.size x.2)).out.1
             have x29_1:=fun(x:Later c29)=>(HC _ (below_next HB.out HB.out.size x.2)).out.2.1
             have x29_2:=fun(x:Later c29)=>(HC _ (below_next HB.out HB.out.size x.2)).out.2.2.1
             have x29_3:=fun(x:Later c29)=>(HC _ (below_next HB.out HB.out.size x.2)).out.2.2.2.1
             have x29_4:=fun(x:Later c29)=>(HC _ (below_next HB.out HB.out.size x.2)).out.2.2.2.2.1
             have x29_5:=fun(x:Later c29)=>(HC _ (below_next HB.out HB.out.size x.2)).out.2.2.2.2.2.1
             have x29_6:=fun(x:Later c29)=>(HC _ (below_next HB.out HB.out.size x.2)).out.2.2.2.2.2.2.1
             have x29_7:=fun(x:Later c29)=>(HC _ (below_next HB.out HB.out.size x.2)).out.2.2.2.2.2.2.2
             refine wp_region_later (by kernel_rfl) (by kernel_rfl) ?_
             repeat (first|go_big_quiet_step (((first|(go_at_call 87;with_reducible refine Later.call (T1 _).out)|(go_at_call 87;with_reducible refine Later.call (T2 _).out)|(go_at_call 87;with_reducible refine Later.call (T3 _).out)|(go_at_call 87;with_reducible refine Later.call (T4 _).out))))|quiet_step (((first|(go_at_call 87;with_reducible refine Later.call (T1 _).out)|(go_at_call 87;with_reducible refine Later.call (T2 _).out)|(go_at_call 87;with_reducible refine Later.call (T3 _).out)|(go_at_call 87;with_reducible refine Later.call (T4 _).out)))))
             refine wpQuiet_nil ?_
             intro w29 hw29
             have hb29:=later_below hw29
             clear hw29
             have HB:=Lib.hid (below_next HB.out HB.out.size hb29)
             clear x29_0 x29_1 x29_2 x29_3 x29_4 x29_5 x29_6 x29_7
             clear q28_0 q28_1 q28_2 q28_3 q28_4 q28_5 q28_6 q28_7
             obtain⟨q29_0,q29_1,q29_2,q29_3,q29_4,q29_5,q29_6,q29_7⟩:=(HC _ HB.out).out
             clear hb29
             go_wp2_with fail
             go_ret
             exact⟨rfl,box_end HB.out (by repeat (first|exact Below.refl _ _|refine below_alloc ?_))⟩
            ·have dp:=decide_eq_true hp0
             have dq:=decide_eq_false hq0
             rw[dp,dq]
             go_enter Try.func73,Try.ntmps73
             go_wp2_with fail
             have HC:=fun(W:World) hb=>Lib.hid (box4 w a b c d (W:=W) hb)
             have HB:=Lib.hid (box4_start w a b c d)
             refine((HALL _ _ (pts4 _ a b c d (by simp)) (by simp)).out).mono ?_
             rintro e w31 ⟨rfl,hb31⟩
             have HB:=Lib.hid (below_next (below_next HB.out HB.out.size (by repeat (first|exact Below.refl _ _|refine below_alloc ?_))) (by first|exact HB.out.size|(simp;done)|(have:=HB.out.size;simp at this ⊢;omega)) hb31)
             obtain⟨q31_0,q31_1,q31_2,q31_3,q31_4,q31_5,q31_6,q31_7⟩:=(HC _ HB.out).out
             clear hb31
             go_wp2_with fail
             refine((H1 _).out).mono ?_
             rintro e w32 ⟨rfl,hb32⟩
             have HB:=Lib.hid (below_next (below_next HB.out HB.out.size (by repeat (first|exact Below.refl _ _|refine below_alloc ?_))) (by first|exact HB.out.size|(simp;done)|(have:=HB.out.size;simp at this ⊢;omega)) hb32)
             clear q31_0 q31_1 q31_2 q31_3 q31_4 q31_5 q31_6 q31_7
             obtain⟨q32_0,q32_1,q32_2,q32_3,q32_4,q32_5,q32_6,q32_7⟩:=(HC _ HB.out).out
             clear hb32
             go_wp2_with fail
             refine((H2 _).out).mono ?_
             rintro e w33 ⟨rfl,hb33⟩
             have HB:=Lib.hid (below_next (below_next HB.out HB.out.size (by repeat (first|exact Below.refl _ _|refine below_alloc ?_))) (by first|exact HB.out.size|(simp;done)|(have:=HB.out.size;simp at this ⊢;omega)) hb33)
             clear q32_0 q32_1 q32_2 q32_3 q32_4 q32_5 q32_6 q32_7
             obtain⟨q33_0,q33_1,q33_2,q33_3,q33_4,q33_5,q33_6,q33_7⟩:=(HC _ HB.out).out
             clear hb33
             go_wp2_with fail
             refine((H3 _).out).mono ?_
             rintro e w34 ⟨rfl,hb34⟩
             have HB:=Lib.hid (below_next (below_next HB.out HB.out.size (by repeat (first|exact Below.refl _ _|refine below_alloc ?_))) (by first|exact HB.out.size|(simp;done)|(have:=HB.out.size;simp at this ⊢;omega)) hb34)
             clear q33_0 q33_1 q33_2 q33_3 q33_4 q33_5 q33_6 q33_7
             obtain⟨q34_0,q34_1,q34_2,q34_3,q34_4,q34_5,q34_6,q34_7⟩:=(HC _ HB.out).out
             clear hb34
             go_wp2_with fail
             refine((H4 _).out).mono ?_
             rintro e w35 ⟨rfl,hb35⟩
             have HB:=Lib.hid (below_next (below_next HB.out HB.out.size (by repeat (first|exact Below.refl _ _|refine below_alloc ?_))) (by first|exact HB.out.size|(simp;done)|(have:=HB.out.size;simp at this ⊢;omega)) hb35)
             clear q34_0 q34_1 q34_2 q34_3 q34_4 q34_5 q34_6 q34_7
             obtain⟨q35_0,q35_1,q35_2,q35_3,q35_4,q35_5,q35_6,q35_7⟩:=(HC _ HB.out).out
             clear hb35
             go_wp2_with fail
             refine wp_name (fun c36 hc36=> ?_)
             have HB:=Lib.hid (below_name (below_next HB.out HB.out.size (by repeat (first|exact Below.refl _ _|refine below_alloc ?_))) hc36)
             clear hc36
             have x36_0:=fun(x:Later c36)=>(HC _ (below_next HB.out HB.out.size x.2)).out.1
             have x36_1:=fun(x:Later c36)=>(HC _ (below_next HB.out HB.out.size x.2)).out.2.1
             have x36_2:=fun(x:Later c36)=>(HC _ (below_next HB.out HB.out.size x.2)).out.2.2.1
             have x36_3:=fun(x:Later c36)=>(HC _ (below_next HB.out HB.out.size x.2)).out.2.2.2.1
             have x36_4:=fun(x:Later c36)=>(HC _ (below_next HB.out HB.out.size x.2)).out.2.2.2.2.1
             have x36_5:=fun(x:Later c36)=>(HC _ (below_next HB.out HB.out.size x.2)).out.2.2.2.2.2.1
             have x36_6:=fun(x:Later c36)=>(HC _ (below_next HB.out HB.out.size x.2)).out.2.2.2.2.2.2.1
             have x36_7:=fun(x:Later c36)=>(HC _ (below_next HB.out HB.out.size x.2)).out.2.2.2.2.2.2.2
             refine wp_region_later (by kernel_rfl) (by kernel_rfl) ?_
             repeat (first|go_big_quiet_step (((first|(go_at_call 87;with_reducible refine Later.call (T1 _).out)|(go_at_call 87;with_reducible refine Later.call (T2 _).out)|(go_at_call 87;with_reducible refine Later.call (T3 _).out)|(go_at_call 87;with_reducible refine Later.call (T4 _).out))))|quiet_step (((first|(go_at_call 87;with_reducible refine Later.call (T1 _).out)|(go_at_call 87;with_reducible refine Later.call (T2 _).out)|(go_at_call 87;with_reducible refine Later.call (T3 _).out)|(go_at_call 87;with_reducible refine Later.call (T4 _).out)))))
             refine wpQuiet_nil ?_
             intro w36 hw36
             have hb36:=later_below hw36
             clear hw36
             have HB:=Lib.hid (below_next HB.out HB.out.size hb36)
             clear x36_0 x36_1 x36_2 x36_3 x36_4 x36_5 x36_6 x36_7
             clear q35_0 q35_1 q35_2 q35_3 q35_4 q35_5 q35_6 q35_7
             obtain⟨q36_0,q36_1,q36_2,q36_3,q36_4,q36_5,q36_6,q36_7⟩:=(HC _ HB.out).out
             clear hb36
             go_wp2_with fail
             go_ret
             exact⟨rfl,box_end HB.out (by repeat (first|exact Below.refl _ _|refine below_alloc ?_))⟩
           ·have dp:=decide_eq_false hp0
            rw[dp,Bool.false_and]
            go_enter Try.func73,Try.ntmps73
            go_wp2_with fail
            have HC:=fun(W:World) hb=>Lib.hid (box4 w a b c d (W:=W) hb)
            have HB:=Lib.hid (box4_start w a b c d)
            refine((HALL _ _ (pts4 _ a b c d (by simp)) (by simp)).out).mono ?_
            rintro e w38 ⟨rfl,hb38⟩
            have HB:=Lib.hid (below_next (below_next HB.out HB.out.size (by repeat (first|exact Below.refl _ _|refine below_alloc ?_))) (by first|exact HB.out.size|(simp;done)|(have:=HB.out.size;simp at this ⊢;omega)) hb38)
            obtain⟨q38_0,q38_1,q38_2,q38_3,q38_4,q38_5,q38_6,q38_7⟩:=(HC _ HB.out).out
            clear hb38
            go_wp2_with fail
            refine((H1 _).out).mono ?_
            rintro e w39 ⟨rfl,hb39⟩
            have HB:=Lib.hid (below_next (below_next HB.out HB.out.size (by repeat (first|exact Below.refl _ _|refine below_alloc ?_))) (by first|exact HB.out.size|(simp;done)|(have:=HB.out.size;simp at this ⊢;omega)) hb39)
            clear q38_0 q38_1 q38_2 q38_3 q38_4 q38_5 q38_6 q38_7
            obtain⟨q39_0,q39_1,q39_2,q39_3,q39_4,q39_5,q39_6,q39_7⟩:=(HC _ HB.out).out
            clear hb39
            go_wp2_with fail
            refine((H2 _).out).mono ?_
            rintro e w40 ⟨rfl,hb40⟩
            have HB:=Lib.hid (below_next (below_next HB.out HB.out.size (by repeat (first|exact Below.refl _ _|refine below_alloc ?_))) (by first|exact HB.out.size|(simp;done)|(have:=HB.out.size;simp at this ⊢;omega)) hb40)
            clear q39_0 q39_1 q39_2 q39_3 q39_4 q39_5 q39_6 q39_7
            obtain⟨q40_0,q40_1,q40_2,q40_3,q40_4,q40_5,q40_6,q40_7⟩:=(HC _ HB.out).out
            clear hb40
            go_wp2_with fail
            refine((H3 _).out).mono ?_
            rintro e w41 ⟨rfl,hb41⟩
            have HB:=Lib.hid (below_next (below_next HB.out HB.out.size (by repeat (first|exact Below.refl _ _|refine below_alloc ?_))) (by first|exact HB.out.size|(simp;done)|(have:=HB.out.size;simp at this ⊢;omega)) hb41)
            clear q40_0 q40_1 q40_2 q40_3 q40_4 q40_5 q40_6 q40_7
            obtain⟨q41_0,q41_1,q41_2,q41_3,q41_4,q41_5,q41_6,q41_7⟩:=(HC _ HB.out).out
            clear hb41
            go_wp2_with fail
            refine((H4 _).out).mono ?_
            rintro e w42 ⟨rfl,hb42⟩
            have HB:=Lib.hid (below_next (below_next HB.out HB.out.size (by repeat (first|exact Below.refl _ _|refine below_alloc ?_))) (by first|exact HB.out.size|(simp;done)|(have:=HB.out.size;simp at this ⊢;omega)) hb42)
            clear q41_0 q41_1 q41_2 q41_3 q41_4 q41_5 q41_6 q41_7
            obtain⟨q42_0,q42_1,q42_2,q42_3,q42_4,q42_5,q42_6,q42_7⟩:=(HC _ HB.out).out
            clear hb42
            go_wp2_with fail
            refine wp_name (fun c43 hc43=> ?_)
            have HB:=Lib.hid (below_name (below_next HB.out HB.out.size (by repeat (first|exact Below.refl _ _|refine below_alloc ?_))) hc43)
            clear hc43
            have x43_0:=fun(x:Later c43)=>(HC _ (below_next HB.out HB.out.size x.2)).out.1
            have x43_1:=fun(x:Later c43)=>(HC _ (below_next HB.out HB.out.size x.2)).out.2.1
            have x43_2:=fun(x:Later c43)=>(HC _ (below_next HB.out HB.out.size x.2)).out.2.2.1
            have x43_3:=fun(x:Later c43)=>(HC _ (below_next HB.out HB.out.size x.2)).out.2.2.2.1
            have x43_4:=fun(x:Later c43)=>(HC _ (below_next HB.out HB.out.size x.2)).out.2.2.2.2.1
            have x43_5:=fun(x:Later c43)=>(HC _ (below_next HB.out HB.out.size x.2)).out.2.2.2.2.2.1
            have x43_6:=fun(x:Later c43)=>(HC _ (below_next HB.out HB.out.size x.2)).out.2.2.2.2.2.2.1
            have x43_7:=fun(x:Later c43)=>(HC _ (below_next HB.out HB.out.size x.2)).out.2.2.2.2.2.2.2
            refine wp_region_later (by kernel_rfl) (by kernel_rfl) ?_
            repeat (first|go_big_quiet_step (((first|(go_at_call 87;with_reducible refine Later.call (T1 _).out)|(go_at_call 87;with_reducible refine Later.call (T2 _).out)|(go_at_call 87;with_reducible refine Later.call (T3 _).out)|(go_at_call 87;with_reducible refine Later.call (T4 _).out))))|quiet_step (((first|(go_at_call 87;with_reducible refine Later.call (T1 _).out)|(go_at_call 87;with_reducible refine Later.call (T2 _).out)|(go_at_call 87;with_reducible refine Later.call (T3 _).out)|(go_at_call 87;with_reducible refine Later.call (T4 _).out)))))
            refine wpQuiet_nil ?_
            intro w43 hw43
            have hb43:=later_below hw43
            clear hw43
            have HB:=Lib.hid (below_next HB.out HB.out.size hb43)
            clear x43_0 x43_1 x43_2 x43_3 x43_4 x43_5 x43_6 x43_7
            clear q42_0 q42_1 q42_2 q42_3 q42_4 q42_5 q42_6 q42_7
            obtain⟨q43_0,q43_1,q43_2,q43_3,q43_4,q43_5,q43_6,q43_7⟩:=(HC _ HB.out).out
            clear hb43
            go_wp2_with fail
            go_ret
            exact⟨rfl,box_end HB.out (by repeat (first|exact Below.refl _ _|refine below_alloc ?_))⟩
          ·have r5:=eq_pt_t hbc
           simp only[Bool.true_and,Bool.false_or,Bool.false_and,if_true]
           clear hac had hne hbc
           go_enter Try.func73,Try.ntmps73
           go_wp2_with fail
           have HC:=fun(W:World) hb=>Lib.hid (box4 w a b c d (W:=W) hb)
           have HB:=Lib.hid (box4_start w a b c d)
           refine((HALL _ _ (pts4 _ a b c d (by simp)) (by simp)).out).mono ?_
           rintro e w45 ⟨rfl,hb45⟩
           have HB:=Lib.hid (below_next (below_next HB.out HB.out.size (by repeat (first|exact Below.refl _ _|refine below_alloc ?_))) (by first|exact HB.out.size|(simp;done)|(have:=HB.out.size;simp at this ⊢;omega)) hb45)
           obtain⟨q45_0,q45_1,q45_2,q45_3,q45_4,q45_5,q45_6,q45_7⟩:=(HC _ HB.out).out
           clear hb45
           go_wp2_with fail
           refine((H1 _).out).mono ?_
           rintro e w46 ⟨rfl,hb46⟩
           have HB:=Lib.hid (below_next (below_next HB.out HB.out.size (by repeat (first|exact Below.refl _ _|refine below_alloc ?_))) (by first|exact HB.out.size|(simp;done)|(have:=HB.out.size;simp at this ⊢;omega)) hb46)
           clear q45_0 q45_1 q45_2 q45_3 q45_4 q45_5 q45_6 q45_7
           obtain⟨q46_0,q46_1,q46_2,q46_3,q46_4,q46_5,q46_6,q46_7⟩:=(HC _ HB.out).out
           clear hb46
           go_wp2_with fail
           refine((H2 _).out).mono ?_
           rintro e w47 ⟨rfl,hb47⟩
           have HB:=Lib.hid (below_next (below_next HB.out HB.out.size (by repeat (first|exact Below.refl _ _|refine below_alloc ?_))) (by first|exact HB.out.size|(simp;done)|(have:=HB.out.size;simp at this ⊢;omega)) hb47)
           clear q46_0 q46_1 q46_2 q46_3 q46_4 q46_5 q46_6 q46_7
           obtain⟨q47_0,q47_1,q47_2,q47_3,q47_4,q47_5,q47_6,q47_7⟩:=(HC _ HB.out).out
           clear hb47
           go_wp2_with fail
           refine((H3 _).out).mono ?_
           rintro e w48 ⟨rfl,hb48⟩
           have HB:=Lib.hid (below_next (below_next HB.out HB.out.size (by repeat (first|exact Below.refl _ _|refine below_alloc ?_))) (by first|exact HB.out.size|(simp;done)|(have:=HB.out.size;simp at this ⊢;omega)) hb48)
           clear q47_0 q47_1 q47_2 q47_3 q47_4 q47_5 q47_6 q47_7
           obtain⟨q48_0,q48_1,q48_2,q48_3,q48_4,q48_5,q48_6,q48_7⟩:=(HC _ HB.out).out
           clear hb48
           go_wp2_with fail
           refine((H4 _).out).mono ?_
           rintro e w49 ⟨rfl,hb49⟩
           have HB:=Lib.hid (below_next (below_next HB.out HB.out.size (by repeat (first|exact Below.refl _ _|refine below_alloc ?_))) (by first|exact HB.out.size|(simp;done)|(have:=HB.out.size;simp at this ⊢;omega)) hb49)
           clear q48_0 q48_1 q48_2 q48_3 q48_4 q48_5 q48_6 q48_7
           obtain⟨q49_0,q49_1,q49_2,q49_3,q49_4,q49_5,q49_6,q49_7⟩:=(HC _ HB.out).out
           clear hb49
           go_wp2_with fail
           go_ret
           exact⟨rfl,box_end HB.out (by repeat (first|exact Below.refl _ _|refine below_alloc ?_))⟩
        ·have had:decide (a=d)=false:=by
          cases had:decide (a=d)
          ·rfl
          ·exact absurd ⟨hac,had⟩ hne
         have r3:=eq_pt_t hac
         have r4:=eq_pt_f had
         cases hbd:decide (b=d)
         ·have r5:=eq_pt_f hbd
          simp only[had,Bool.false_and,Bool.and_false,Bool.or_false,Bool.false_eq_true,if_false]
          clear hac had hne hbd
          have hp:=trn_mul a b c a b d
          have hq:=trn_mul c d a c d b
          generalize trn a b c=t1 at*
          generalize trn a b d=t2 at*
          generalize trn c d a=t3 at*
          generalize trn c d b=t4 at*
          obtain⟨p1,hpp⟩: ∃p1,p1=t1*t2:=⟨_,rfl⟩
          obtain⟨p2,hqq⟩: ∃p2,p2=t3*t4:=⟨_,rfl⟩
          have hw1:wrap64 (t1*t2)=p1:=by rw[←hpp];exact IntWalk.wrap64_in _ ⟨by omega,by omega⟩
          have hw2:wrap64 (t3*t4)=p2:=by rw[←hqq];exact IntWalk.wrap64_in _ ⟨by omega,by omega⟩
          have hv1:IntKind.i64.wrap (t1*t2)=p1:=by rw[←hpp];exact IntWalk.i64_in _ (by omega)
          have hv2:IntKind.i64.wrap (t3*t4)=p2:=by rw[←hqq];exact IntWalk.i64_in _ (by omega)
          rw[←hpp, ←hqq]
          clear hpp hqq hp hq
          by_cases hp0:p1<0
          ·by_cases hq0:p2<0
           ·have dp:=decide_eq_true hp0
            have dq:=decide_eq_true hq0
            rw[dp,dq]
            go_enter Try.func73,Try.ntmps73
            go_wp2_with fail
            have HC:=fun(W:World) hb=>Lib.hid (box4 w a b c d (W:=W) hb)
            have HB:=Lib.hid (box4_start w a b c d)
            refine((HALL _ _ (pts4 _ a b c d (by simp)) (by simp)).out).mono ?_
            rintro e w51 ⟨rfl,hb51⟩
            have HB:=Lib.hid (below_next (below_next HB.out HB.out.size (by repeat (first|exact Below.refl _ _|refine below_alloc ?_))) (by first|exact HB.out.size|(simp;done)|(have:=HB.out.size;simp at this ⊢;omega)) hb51)
            obtain⟨q51_0,q51_1,q51_2,q51_3,q51_4,q51_5,q51_6,q51_7⟩:=(HC _ HB.out).out
            clear hb51
            go_wp2_with fail
            refine((H1 _).out).mono ?_
            rintro e w52 ⟨rfl,hb52⟩
            have HB:=Lib.hid (below_next (below_next HB.out HB.out.size (by repeat (first|exact Below.refl _ _|refine below_alloc ?_))) (by first|exact HB.out.size|(simp;done)|(have:=HB.out.size;simp at this ⊢;omega)) hb52)
            clear q51_0 q51_1 q51_2 q51_3 q51_4 q51_5 q51_6 q51_7
            obtain⟨q52_0,q52_1,q52_2,q52_3,q52_4,q52_5,q52_6,q52_7⟩:=(HC _ HB.out).out
            clear hb52
            go_wp2_with fail
            refine((H2 _).out).mono ?_
            rintro e w53 ⟨rfl,hb53⟩
            have HB:=Lib.hid (below_next (below_next HB.out HB.out.size (by repeat (first|exact Below.refl _ _|refine below_alloc ?_))) (by first|exact HB.out.size|(simp;done)|(have:=HB.out.size;simp at this ⊢;omega)) hb53)
            clear q52_0 q52_1 q52_2 q52_3 q52_4 q52_5 q52_6 q52_7
            obtain⟨q53_0,q53_1,q53_2,q53_3,q53_4,q53_5,q53_6,q53_7⟩:=(HC _ HB.out).out
            clear hb53
            go_wp2_with fail
            refine((H3 _).out).mono ?_
            rintro e w54 ⟨rfl,hb54⟩
            have HB:=Lib.hid (below_next (below_next HB.out HB.out.size (by repeat (first|exact Below.refl _ _|refine below_alloc ?_))) (by first|exact HB.out.size|(simp;done)|(have:=HB.out.size;simp at this ⊢;omega)) hb54)
            clear q53_0 q53_1 q53_2 q53_3 q53_4 q53_5 q53_6 q53_7
            obtain⟨q54_0,q54_1,q54_2,q54_3,q54_4,q54_5,q54_6,q54_7⟩:=(HC _ HB.out).out
            clear hb54
            go_wp2_with fail
            refine((H4 _).out).mono ?_
            rintro e w55 ⟨rfl,hb55⟩
            have HB:=Lib.hid (below_next (below_next HB.out HB.out.size (by repeat (first|exact Below.refl _ _|refine below_alloc ?_))) (by first|exact HB.out.size|(simp;done)|(have:=HB.out.size;simp at this ⊢;omega)) hb55)
            clear q54_0 q54_1 q54_2 q54_3 q54_4 q54_5 q54_6 q54_7
            obtain⟨q55_0,q55_1,q55_2,q55_3,q55_4,q55_5,q55_6,q55_7⟩:=(HC _ HB.out).out
            clear hb55
            go_wp2_with fail
            refine wp_name (fun c56 hc56=> ?_)
            have HB:=Lib.hid (below_name (below_next HB.out HB.out.size (by repeat (first|exact Below.refl _ _|refine below_alloc ?_))) hc56)
            clear hc56
            have x56_0:=fun(x:Later c56)=>(HC _ (below_next HB.out HB.out.size x.2)).out.1
            have x56_1:=fun(x:Later c56)=>(HC _ (below_next HB.out HB.out.size x.2)).out.2.1
            have x56_2:=fun(x:Later c56)=>(HC _ (below_next HB.out HB.out.size x.2)).out.2.2.1
            have x56_3:=fun(x:Later c56)=>(HC _ (below_next HB.out HB.out.size x.2)).out.2.2.2.1
            have x56_4:=fun(x:Later c56)=>(HC _ (below_next HB.out HB.out.size x.2)).out.2.2.2.2.1
            have x56_5:=fun(x:Later c56)=>(HC _ (below_next HB.out HB.out.size x.2)).out.2.2.2.2.2.1
            have x56_6:=fun(x:Later c56)=>(HC _ (below_next HB.out HB.out.size x.2)).out.2.2.2.2.2.2.1
            have x56_7:=fun(x:Later c56)=>(HC _ (below_next HB.out HB.out.size x.2)).out.2.2.2.2.2.2.2
            refine wp_region_later (by kernel_rfl) (by kernel_rfl) ?_
            repeat (first|go_big_quiet_step (((first|(go_at_call 87;with_reducible refine Later.call (T1 _).out)|(go_at_call 87;with_reducible refine Later.call (T2 _).out)|(go_at_call 87;with_reducible refine Later.call (T3 _).out)|(go_at_call 87;with_reducible refine Later.call (T4 _).out))))|quiet_step (((first|(go_at_call 87;with_reducible refine Later.call (T1 _).out)|(go_at_call 87;with_reducible refine Later.call (T2 _).out)|(go_at_call 87;with_reducible refine Later.call (T3 _).out)|(go_at_call 87;with_reducible refine Later.call (T4 _).out)))))
            refine wpQuiet_nil ?_
            intro w56 hw56
            have hb56:=later_below hw56
            clear hw56
            have HB:=Lib.hid (below_next HB.out HB.out.size hb56)
            clear x56_0 x56_1 x56_2 x56_3 x56_4 x56_5 x56_6 x56_7
            clear q55_0 q55_1 q55_2 q55_3 q55_4 q55_5 q55_6 q55_7
            obtain⟨q56_0,q56_1,q56_2,q56_3,q56_4,q56_5,q56_6,q56_7⟩:=(HC _ HB.out).out
            clear hb56
            go_wp2_with fail
            go_ret
            exact⟨rfl,box_end HB.out (by repeat (first|exact Below.refl _ _|refine below_alloc ?_))⟩
           ·have dp:=decide_eq_true hp0
            have dq:=decide_eq_false hq0
            rw[dp,dq]
            go_enter Try.func73,Try.ntmps73
            go_wp2_with fail
            have HC:=fun(W:World) hb=>Lib.hid (box4 w a b c d (W:=W) hb)
            have HB:=Lib.hid (box4_start w a b c d)
            refine((HALL _ _ (pts4 _ a b c d (by simp)) (by simp)).out).mono ?_
            rintro e w58 ⟨rfl,hb58⟩
            have HB:=Lib.hid (below_next (below_next HB.out HB.out.size (by repeat (first|exact Below.refl _ _|refine below_alloc ?_))) (by first|exact HB.out.size|(simp;done)|(have:=HB.out.size;simp at this ⊢;omega)) hb58)
            obtain⟨q58_0,q58_1,q58_2,q58_3,q58_4,q58_5,q58_6,q58_7⟩:=(HC _ HB.out).out
            clear hb58
            go_wp2_with fail
            refine((H1 _).out).mono ?_
            rintro e w59 ⟨rfl,hb59⟩
            have HB:=Lib.hid (below_next (below_next HB.out HB.out.size (by repeat (first|exact Below.refl _ _|refine below_alloc ?_))) (by first|exact HB.out.size|(simp;done)|(have:=HB.out.size;simp at this ⊢;omega)) hb59)
            clear q58_0 q58_1 q58_2 q58_3 q58_4 q58_5 q58_6 q58_7
            obtain⟨q59_0,q59_1,q59_2,q59_3,q59_4,q59_5,q59_6,q59_7⟩:=(HC _ HB.out).out
            clear hb59
            go_wp2_with fail
            refine((H2 _).out).mono ?_
            rintro e w60 ⟨rfl,hb60⟩
            have HB:=Lib.hid (below_next (below_next HB.out HB.out.size (by repeat (first|exact Below.refl _ _|refine below_alloc ?_))) (by first|exact HB.out.size|(simp;done)|(have:=HB.out.size;simp at this ⊢;omega)) hb60)
            clear q59_0 q59_1 q59_2 q59_3 q59_4 q59_5 q59_6 q59_7
            obtain⟨q60_0,q60_1,q60_2,q60_3,q60_4,q60_5,q60_6,q60_7⟩:=(HC _ HB.out).out
            clear hb60
            go_wp2_with fail
            refine((H3 _).out).mono ?_
            rintro e w61 ⟨rfl,hb61⟩
            have HB:=Lib.hid (below_next (below_next HB.out HB.out.size (by repeat (first|exact Below.refl _ _|refine below_alloc ?_))) (by first|exact HB.out.size|(simp;done)|(have:=HB.out.size;simp at this ⊢;omega)) hb61)
            clear q60_0 q60_1 q60_2 q60_3 q60_4 q60_5 q60_6 q60_7
            obtain⟨q61_0,q61_1,q61_2,q61_3,q61_4,q61_5,q61_6,q61_7⟩:=(HC _ HB.out).out
            clear hb61
            go_wp2_with fail
            refine((H4 _).out).mono ?_
            rintro e w62 ⟨rfl,hb62⟩
            have HB:=Lib.hid (below_next (below_next HB.out HB.out.size (by repeat (first|exact Below.refl _ _|refine below_alloc ?_))) (by first|exact HB.out.size|(simp;done)|(have:=HB.out.size;simp at this ⊢;omega)) hb62)
            clear q61_0 q61_1 q61_2 q61_3 q61_4 q61_5 q61_6 q61_7
            obtain⟨q62_0,q62_1,q62_2,q62_3,q62_4,q62_5,q62_6,q62_7⟩:=(HC _ HB.out).out
            clear hb62
            go_wp2_with fail
            refine wp_name (fun c63 hc63=> ?_)
            have HB:=Lib.hid (below_name (below_next HB.out HB.out.size (by repeat (first|exact Below.refl _ _|refine below_alloc ?_))) hc63)
            clear hc63
            have x63_0:=fun(x:Later c63)=>(HC _ (below_next HB.out HB.out.size x.2)).out.1
            have x63_1:=fun(x:Later c63)=>(HC _ (below_next HB.out HB.out.size x.2)).out.2.1
            have x63_2:=fun(x:Later c63)=>(HC _ (below_next HB.out HB.out.size x.2)).out.2.2.1
            have x63_3:=fun(x:Later c63)=>(HC _ (below_next HB.out HB.out.size x.2)).out.2.2.2.1
            have x63_4:=fun(x:Later c63)=>(HC _ (below_next HB.out HB.out.size x.2)).out.2.2.2.2.1
            have x63_5:=fun(x:Later c63)=>(HC _ (below_next HB.out HB.out.size x.2)).out.2.2.2.2.2.1
            have x63_6:=fun(x:Later c63)=>(HC _ (below_next HB.out HB.out.size x.2)).out.2.2.2.2.2.2.1
            have x63_7:=fun(x:Later c63)=>(HC _ (below_next HB.out HB.out.size x.2)).out.2.2.2.2.2.2.2
            refine wp_region_later (by kernel_rfl) (by kernel_rfl) ?_
            repeat (first|go_big_quiet_step (((first|(go_at_call 87;with_reducible refine Later.call (T1 _).out)|(go_at_call 87;with_reducible refine Later.call (T2 _).out)|(go_at_call 87;with_reducible refine Later.call (T3 _).out)|(go_at_call 87;with_reducible refine Later.call (T4 _).out))))|quiet_step (((first|(go_at_call 87;with_reducible refine Later.call (T1 _).out)|(go_at_call 87;with_reducible refine Later.call (T2 _).out)|(go_at_call 87;with_reducible refine Later.call (T3 _).out)|(go_at_call 87;with_reducible refine Later.call (T4 _).out)))))
            refine wpQuiet_nil ?_
            intro w63 hw63
            have hb63:=later_below hw63
            clear hw63
            have HB:=Lib.hid (below_next HB.out HB.out.size hb63)
            clear x63_0 x63_1 x63_2 x63_3 x63_4 x63_5 x63_6 x63_7
            clear q62_0 q62_1 q62_2 q62_3 q62_4 q62_5 q62_6 q62_7
            obtain⟨q63_0,q63_1,q63_2,q63_3,q63_4,q63_5,q63_6,q63_7⟩:=(HC _ HB.out).out
            clear hb63
            go_wp2_with fail
            go_ret
            exact⟨rfl,box_end HB.out (by repeat (first|exact Below.refl _ _|refine below_alloc ?_))⟩
          ·have dp:=decide_eq_false hp0
           rw[dp,Bool.false_and]
           go_enter Try.func73,Try.ntmps73
           go_wp2_with fail
           have HC:=fun(W:World) hb=>Lib.hid (box4 w a b c d (W:=W) hb)
           have HB:=Lib.hid (box4_start w a b c d)
           refine((HALL _ _ (pts4 _ a b c d (by simp)) (by simp)).out).mono ?_
           rintro e w65 ⟨rfl,hb65⟩
           have HB:=Lib.hid (below_next (below_next HB.out HB.out.size (by repeat (first|exact Below.refl _ _|refine below_alloc ?_))) (by first|exact HB.out.size|(simp;done)|(have:=HB.out.size;simp at this ⊢;omega)) hb65)
           obtain⟨q65_0,q65_1,q65_2,q65_3,q65_4,q65_5,q65_6,q65_7⟩:=(HC _ HB.out).out
           clear hb65
           go_wp2_with fail
           refine((H1 _).out).mono ?_
           rintro e w66 ⟨rfl,hb66⟩
           have HB:=Lib.hid (below_next (below_next HB.out HB.out.size (by repeat (first|exact Below.refl _ _|refine below_alloc ?_))) (by first|exact HB.out.size|(simp;done)|(have:=HB.out.size;simp at this ⊢;omega)) hb66)
           clear q65_0 q65_1 q65_2 q65_3 q65_4 q65_5 q65_6 q65_7
           obtain⟨q66_0,q66_1,q66_2,q66_3,q66_4,q66_5,q66_6,q66_7⟩:=(HC _ HB.out).out
           clear hb66
           go_wp2_with fail
           refine((H2 _).out).mono ?_
           rintro e w67 ⟨rfl,hb67⟩
           have HB:=Lib.hid (below_next (below_next HB.out HB.out.size (by repeat (first|exact Below.refl _ _|refine below_alloc ?_))) (by first|exact HB.out.size|(simp;done)|(have:=HB.out.size;simp at this ⊢;omega)) hb67)
           clear q66_0 q66_1 q66_2 q66_3 q66_4 q66_5 q66_6 q66_7
           obtain⟨q67_0,q67_1,q67_2,q67_3,q67_4,q67_5,q67_6,q67_7⟩:=(HC _ HB.out).out
           clear hb67
           go_wp2_with fail
           refine((H3 _).out).mono ?_
           rintro e w68 ⟨rfl,hb68⟩
           have HB:=Lib.hid (below_next (below_next HB.out HB.out.size (by repeat (first|exact Below.refl _ _|refine below_alloc ?_))) (by first|exact HB.out.size|(simp;done)|(have:=HB.out.size;simp at this ⊢;omega)) hb68)
           clear q67_0 q67_1 q67_2 q67_3 q67_4 q67_5 q67_6 q67_7
           obtain⟨q68_0,q68_1,q68_2,q68_3,q68_4,q68_5,q68_6,q68_7⟩:=(HC _ HB.out).out
           clear hb68
           go_wp2_with fail
           refine((H4 _).out).mono ?_
           rintro e w69 ⟨rfl,hb69⟩
           have HB:=Lib.hid (below_next (below_next HB.out HB.out.size (by repeat (first|exact Below.refl _ _|refine below_alloc ?_))) (by first|exact HB.out.size|(simp;done)|(have:=HB.out.size;simp at this ⊢;omega)) hb69)
           clear q68_0 q68_1 q68_2 q68_3 q68_4 q68_5 q68_6 q68_7
           obtain⟨q69_0,q69_1,q69_2,q69_3,q69_4,q69_5,q69_6,q69_7⟩:=(HC _ HB.out).out
           clear hb69
           go_wp2_with fail
           refine wp_name (fun c70 hc70=> ?_)
           have HB:=Lib.hid (below_name (below_next HB.out HB.out.size (by repeat (first|exact Below.refl _ _|refine below_alloc ?_))) hc70)
           clear hc70
           have x70_0:=fun(x:Later c70)=>(HC _ (below_next HB.out HB.out.size x.2)).out.1
           have x70_1:=fun(x:Later c70)=>(HC _ (below_next HB.out HB.out.size x.2)).out.2.1
           have x70_2:=fun(x:Later c70)=>(HC _ (below_next HB.out HB.out.size x.2)).out.2.2.1
           have x70_3:=fun(x:Later c70)=>(HC _ (below_next HB.out HB.out.size x.2)).out.2.2.2.1
           have x70_4:=fun(x:Later c70)=>(HC _ (below_next HB.out HB.out.size x.2)).out.2.2.2.2.1
           have x70_5:=fun(x:Later c70)=>(HC _ (below_next HB.out HB.out.size x.2)).out.2.2.2.2.2.1
           have x70_6:=fun(x:Later c70)=>(HC _ (below_next HB.out HB.out.size x.2)).out.2.2.2.2.2.2.1
           have x70_7:=fun(x:Later c70)=>(HC _ (below_next HB.out HB.out.size x.2)).out.2.2.2.2.2.2.2
           refine wp_region_later (by kernel_rfl) (by kernel_rfl) ?_
           repeat (first|go_big_quiet_step (((first|(go_at_call 87;with_reducible refine Later.call (T1 _).out)|(go_at_call 87;with_reducible refine Later.call (T2 _).out)|(go_at_call 87;with_reducible refine Later.call (T3 _).out)|(go_at_call 87;with_reducible refine Later.call (T4 _).out))))|quiet_step (((first|(go_at_call 87;with_reducible refine Later.call (T1 _).out)|(go_at_call 87;with_reducible refine Later.call (T2 _).out)|(go_at_call 87;with_reducible refine Later.call (T3 _).out)|(go_at_call 87;with_reducible refine Later.call (T4 _).out)))))
           refine wpQuiet_nil ?_
           intro w70 hw70
           have hb70:=later_below hw70
           clear hw70
           have HB:=Lib.hid (below_next HB.out HB.out.size hb70)
           clear x70_0 x70_1 x70_2 x70_3 x70_4 x70_5 x70_6 x70_7
           clear q69_0 q69_1 q69_2 q69_3 q69_4 q69_5 q69_6 q69_7
           obtain⟨q70_0,q70_1,q70_2,q70_3,q70_4,q70_5,q70_6,q70_7⟩:=(HC _ HB.out).out
           clear hb70
           go_wp2_with fail
           go_ret
           exact⟨rfl,box_end HB.out (by repeat (first|exact Below.refl _ _|refine below_alloc ?_))⟩
         ·have r5:=eq_pt_t hbd
          simp only[Bool.true_and,Bool.true_or,if_true]
          clear hac had hne hbd
          go_enter Try.func73,Try.ntmps73
          go_wp2_with fail
          have HC:=fun(W:World) hb=>Lib.hid (box4 w a b c d (W:=W) hb)
          have HB:=Lib.hid (box4_start w a b c d)
          refine((HALL _ _ (pts4 _ a b c d (by simp)) (by simp)).out).mono ?_
          rintro e w72 ⟨rfl,hb72⟩
          have HB:=Lib.hid (below_next (below_next HB.out HB.out.size (by repeat (first|exact Below.refl _ _|refine below_alloc ?_))) (by first|exact HB.out.size|(simp;done)|(have:=HB.out.size;simp at this ⊢;omega)) hb72)
          obtain⟨q72_0,q72_1,q72_2,q72_3,q72_4,q72_5,q72_6,q72_7⟩:=(HC _ HB.out).out
          clear hb72
          go_wp2_with fail
          refine((H1 _).out).mono ?_
          rintro e w73 ⟨rfl,hb73⟩
          have HB:=Lib.hid (below_next (below_next HB.out HB.out.size (by repeat (first|exact Below.refl _ _|refine below_alloc ?_))) (by first|exact HB.out.size|(simp;done)|(have:=HB.out.size;simp at this ⊢;omega)) hb73)
          clear q72_0 q72_1 q72_2 q72_3 q72_4 q72_5 q72_6 q72_7
          obtain⟨q73_0,q73_1,q73_2,q73_3,q73_4,q73_5,q73_6,q73_7⟩:=(HC _ HB.out).out
          clear hb73
          go_wp2_with fail
          refine((H2 _).out).mono ?_
          rintro e w74 ⟨rfl,hb74⟩
          have HB:=Lib.hid (below_next (below_next HB.out HB.out.size (by repeat (first|exact Below.refl _ _|refine below_alloc ?_))) (by first|exact HB.out.size|(simp;done)|(have:=HB.out.size;simp at this ⊢;omega)) hb74)
          clear q73_0 q73_1 q73_2 q73_3 q73_4 q73_5 q73_6 q73_7
          obtain⟨q74_0,q74_1,q74_2,q74_3,q74_4,q74_5,q74_6,q74_7⟩:=(HC _ HB.out).out
          clear hb74
          go_wp2_with fail
          refine((H3 _).out).mono ?_
          rintro e w75 ⟨rfl,hb75⟩
          have HB:=Lib.hid (below_next (below_next HB.out HB.out.size (by repeat (first|exact Below.refl _ _|refine below_alloc ?_))) (by first|exact HB.out.size|(simp;done)|(have:=HB.out.size;simp at this ⊢;omega)) hb75)
          clear q74_0 q74_1 q74_2 q74_3 q74_4 q74_5 q74_6 q74_7
          obtain⟨q75_0,q75_1,q75_2,q75_3,q75_4,q75_5,q75_6,q75_7⟩:=(HC _ HB.out).out
          clear hb75
          go_wp2_with fail
          refine((H4 _).out).mono ?_
          rintro e w76 ⟨rfl,hb76⟩
          have HB:=Lib.hid (below_next (below_next HB.out HB.out.size (by repeat (first|exact Below.refl _ _|refine below_alloc ?_))) (by first|exact HB.out.size|(simp;done)|(have:=HB.out.size;simp at this ⊢;omega)) hb76)
          clear q75_0 q75_1 q75_2 q75_3 q75_4 q75_5 q75_6 q75_7
          obtain⟨q76_0,q76_1,q76_2,q76_3,q76_4,q76_5,q76_6,q76_7⟩:=(HC _ HB.out).out
          clear hb76
          go_wp2_with fail
          go_ret
          exact⟨rfl,box_end HB.out (by repeat (first|exact Below.refl _ _|refine below_alloc ?_))⟩
       ·simp only[Bool.or_true,if_true]
        go_enter Try.func73,Try.ntmps73
        go_wp2_with fail
        have HC:=fun(W:World) hb=>Lib.hid (box4 w a b c d (W:=W) hb)
        have HB:=Lib.hid (box4_start w a b c d)
        refine((HALL _ _ (pts4 _ a b c d (by simp)) (by simp)).out).mono ?_
        rintro e w78 ⟨rfl,hb78⟩
        have HB:=Lib.hid (below_next (below_next HB.out HB.out.size (by repeat (first|exact Below.refl _ _|refine below_alloc ?_))) (by first|exact HB.out.size|(simp;done)|(have:=HB.out.size;simp at this ⊢;omega)) hb78)
        obtain⟨q78_0,q78_1,q78_2,q78_3,q78_4,q78_5,q78_6,q78_7⟩:=(HC _ HB.out).out
        clear hb78
        go_wp2_with fail
        refine((H1 _).out).mono ?_
        rintro e w79 ⟨rfl,hb79⟩
        have HB:=Lib.hid (below_next (below_next HB.out HB.out.size (by repeat (first|exact Below.refl _ _|refine below_alloc ?_))) (by first|exact HB.out.size|(simp;done)|(have:=HB.out.size;simp at this ⊢;omega)) hb79)
        clear q78_0 q78_1 q78_2 q78_3 q78_4 q78_5 q78_6 q78_7
        obtain⟨q79_0,q79_1,q79_2,q79_3,q79_4,q79_5,q79_6,q79_7⟩:=(HC _ HB.out).out
        clear hb79
        go_wp2_with fail
        refine((H2 _).out).mono ?_
        rintro e w80 ⟨rfl,hb80⟩
        have HB:=Lib.hid (below_next (below_next HB.out HB.out.size (by repeat (first|exact Below.refl _ _|refine below_alloc ?_))) (by first|exact HB.out.size|(simp;done)|(have:=HB.out.size;simp at this ⊢;omega)) hb80)
        clear q79_0 q79_1 q79_2 q79_3 q79_4 q79_5 q79_6 q79_7
        obtain⟨q80_0,q80_1,q80_2,q80_3,q80_4,q80_5,q80_6,q80_7⟩:=(HC _ HB.out).out
        clear hb80
        go_wp2_with fail
        refine((H3 _).out).mono ?_
        rintro e w81 ⟨rfl,hb81⟩
        have HB:=Lib.hid (below_next (below_next HB.out HB.out.size (by repeat (first|exact Below.refl _ _|refine below_alloc ?_))) (by first|exact HB.out.size|(simp;done)|(have:=HB.out.size;simp at this ⊢;omega)) hb81)
        clear q80_0 q80_1 q80_2 q80_3 q80_4 q80_5 q80_6 q80_7
        obtain⟨q81_0,q81_1,q81_2,q81_3,q81_4,q81_5,q81_6,q81_7⟩:=(HC _ HB.out).out
        clear hb81
        go_wp2_with fail
        refine((H4 _).out).mono ?_
        rintro e w82 ⟨rfl,hb82⟩
        have HB:=Lib.hid (below_next (below_next HB.out HB.out.size (by repeat (first|exact Below.refl _ _|refine below_alloc ?_))) (by first|exact HB.out.size|(simp;done)|(have:=HB.out.size;simp at this ⊢;omega)) hb82)
        clear q81_0 q81_1 q81_2 q81_3 q81_4 q81_5 q81_6 q81_7
        obtain⟨q82_0,q82_1,q82_2,q82_3,q82_4,q82_5,q82_6,q82_7⟩:=(HC _ HB.out).out
        clear hb82
        go_wp2_with fail
        go_ret
        exact⟨rfl,box_end HB.out (by repeat (first|exact Below.refl _ _|refine below_alloc ?_))⟩
      ·simp only[Bool.or_true,Bool.true_or,if_true]
       go_enter Try.func73,Try.ntmps73
       go_wp2_with fail
       have HC:=fun(W:World) hb=>Lib.hid (box4 w a b c d (W:=W) hb)
       have HB:=Lib.hid (box4_start w a b c d)
       refine((HALL _ _ (pts4 _ a b c d (by simp)) (by simp)).out).mono ?_
       rintro e w84 ⟨rfl,hb84⟩
       have HB:=Lib.hid (below_next (below_next HB.out HB.out.size (by repeat (first|exact Below.refl _ _|refine below_alloc ?_))) (by first|exact HB.out.size|(simp;done)|(have:=HB.out.size;simp at this ⊢;omega)) hb84)
       obtain⟨q84_0,q84_1,q84_2,q84_3,q84_4,q84_5,q84_6,q84_7⟩:=(HC _ HB.out).out
       clear hb84
       go_wp2_with fail
       refine((H1 _).out).mono ?_
       rintro e w85 ⟨rfl,hb85⟩
       have HB:=Lib.hid (below_next (below_next HB.out HB.out.size (by repeat (first|exact Below.refl _ _|refine below_alloc ?_))) (by first|exact HB.out.size|(simp;done)|(have:=HB.out.size;simp at this ⊢;omega)) hb85)
       clear q84_0 q84_1 q84_2 q84_3 q84_4 q84_5 q84_6 q84_7
       obtain⟨q85_0,q85_1,q85_2,q85_3,q85_4,q85_5,q85_6,q85_7⟩:=(HC _ HB.out).out
       clear hb85
       go_wp2_with fail
       refine((H2 _).out).mono ?_
       rintro e w86 ⟨rfl,hb86⟩
       have HB:=Lib.hid (below_next (below_next HB.out HB.out.size (by repeat (first|exact Below.refl _ _|refine below_alloc ?_))) (by first|exact HB.out.size|(simp;done)|(have:=HB.out.size;simp at this ⊢;omega)) hb86)
       clear q85_0 q85_1 q85_2 q85_3 q85_4 q85_5 q85_6 q85_7
       obtain⟨q86_0,q86_1,q86_2,q86_3,q86_4,q86_5,q86_6,q86_7⟩:=(HC _ HB.out).out
       clear hb86
       go_wp2_with fail
       refine((H3 _).out).mono ?_
       rintro e w87 ⟨rfl,hb87⟩
       have HB:=Lib.hid (below_next (below_next HB.out HB.out.size (by repeat (first|exact Below.refl _ _|refine below_alloc ?_))) (by first|exact HB.out.size|(simp;done)|(have:=HB.out.size;simp at this ⊢;omega)) hb87)
       clear q86_0 q86_1 q86_2 q86_3 q86_4 q86_5 q86_6 q86_7
       obtain⟨q87_0,q87_1,q87_2,q87_3,q87_4,q87_5,q87_6,q87_7⟩:=(HC _ HB.out).out
       clear hb87
       go_wp2_with fail
       go_ret
       exact⟨rfl,box_end HB.out (by repeat (first|exact Below.refl _ _|refine below_alloc ?_))⟩
     ·simp only[Bool.or_true,Bool.true_or,if_true]
      go_enter Try.func73,Try.ntmps73
      go_wp2_with fail
      have HC:=fun(W:World) hb=>Lib.hid (box4 w a b c d (W:=W) hb)
      have HB:=Lib.hid (box4_start w a b c d)
      refine((HALL _ _ (pts4 _ a b c d (by simp)) (by simp)).out).mono ?_
      rintro e w89 ⟨rfl,hb89⟩
      have HB:=Lib.hid (below_next (below_next HB.out HB.out.size (by repeat (first|exact Below.refl _ _|refine below_alloc ?_))) (by first|exact HB.out.size|(simp;done)|(have:=HB.out.size;simp at this ⊢;omega)) hb89)
      obtain⟨q89_0,q89_1,q89_2,q89_3,q89_4,q89_5,q89_6,q89_7⟩:=(HC _ HB.out).out
      clear hb89
      go_wp2_with fail
      refine((H1 _).out).mono ?_
      rintro e w90 ⟨rfl,hb90⟩
      have HB:=Lib.hid (below_next (below_next HB.out HB.out.size (by repeat (first|exact Below.refl _ _|refine below_alloc ?_))) (by first|exact HB.out.size|(simp;done)|(have:=HB.out.size;simp at this ⊢;omega)) hb90)
      clear q89_0 q89_1 q89_2 q89_3 q89_4 q89_5 q89_6 q89_7
      obtain⟨q90_0,q90_1,q90_2,q90_3,q90_4,q90_5,q90_6,q90_7⟩:=(HC _ HB.out).out
      clear hb90
      go_wp2_with fail
      refine((H2 _).out).mono ?_
      rintro e w91 ⟨rfl,hb91⟩
      have HB:=Lib.hid (below_next (below_next HB.out HB.out.size (by repeat (first|exact Below.refl _ _|refine below_alloc ?_))) (by first|exact HB.out.size|(simp;done)|(have:=HB.out.size;simp at this ⊢;omega)) hb91)
      clear q90_0 q90_1 q90_2 q90_3 q90_4 q90_5 q90_6 q90_7
      obtain⟨q91_0,q91_1,q91_2,q91_3,q91_4,q91_5,q91_6,q91_7⟩:=(HC _ HB.out).out
      clear hb91
      go_wp2_with fail
      go_ret
      exact⟨rfl,box_end HB.out (by repeat (first|exact Below.refl _ _|refine below_alloc ?_))⟩
    ·simp only[Bool.true_or,if_true]
     go_enter Try.func73,Try.ntmps73
     go_wp2_with fail
     have HC:=fun(W:World) hb=>Lib.hid (box4 w a b c d (W:=W) hb)
     have HB:=Lib.hid (box4_start w a b c d)
     refine((HALL _ _ (pts4 _ a b c d (by simp)) (by simp)).out).mono ?_
     rintro e w93 ⟨rfl,hb93⟩
     have HB:=Lib.hid (below_next (below_next HB.out HB.out.size (by repeat (first|exact Below.refl _ _|refine below_alloc ?_))) (by first|exact HB.out.size|(simp;done)|(have:=HB.out.size;simp at this ⊢;omega)) hb93)
     obtain⟨q93_0,q93_1,q93_2,q93_3,q93_4,q93_5,q93_6,q93_7⟩:=(HC _ HB.out).out
     clear hb93
     go_wp2_with fail
     refine((H1 _).out).mono ?_
     rintro e w94 ⟨rfl,hb94⟩
     have HB:=Lib.hid (below_next (below_next HB.out HB.out.size (by repeat (first|exact Below.refl _ _|refine below_alloc ?_))) (by first|exact HB.out.size|(simp;done)|(have:=HB.out.size;simp at this ⊢;omega)) hb94)
     clear q93_0 q93_1 q93_2 q93_3 q93_4 q93_5 q93_6 q93_7
     obtain⟨q94_0,q94_1,q94_2,q94_3,q94_4,q94_5,q94_6,q94_7⟩:=(HC _ HB.out).out
     clear hb94
     go_wp2_with fail
     go_ret
     exact⟨rfl,box_end HB.out (by repeat (first|exact Below.refl _ _|refine below_alloc ?_))⟩
   ·have r2:=eq_pt_t hcd
    simp only[Bool.or_true,if_true]
    clear hab hcd
    go_enter Try.func73,Try.ntmps73
    go_wp2_with fail
    have HC:=fun(W:World) hb=>Lib.hid (box4 w a b c d (W:=W) hb)
    have HB:=Lib.hid (box4_start w a b c d)
    refine((HALL _ _ (pts4 _ a b c d (by simp)) (by simp)).out).mono ?_
    rintro e w96 ⟨rfl,hb96⟩
    have HB:=Lib.hid (below_next (below_next HB.out HB.out.size (by repeat (first|exact Below.refl _ _|refine below_alloc ?_))) (by first|exact HB.out.size|(simp;done)|(have:=HB.out.size;simp at this ⊢;omega)) hb96)
    obtain⟨q96_0,q96_1,q96_2,q96_3,q96_4,q96_5,q96_6,q96_7⟩:=(HC _ HB.out).out
    clear hb96
    go_wp2_with fail
    go_ret
    exact⟨rfl,box_end HB.out (by repeat (first|exact Below.refl _ _|refine below_alloc ?_))⟩
  ·have r1:=eq_pt_t hab
   simp only[Bool.true_or,if_true]
   clear hab
   go_enter Try.func73,Try.ntmps73
   go_wp2_with fail
   have HC:=fun(W:World) hb=>Lib.hid (box4 w a b c d (W:=W) hb)
   have HB:=Lib.hid (box4_start w a b c d)
   refine((HALL _ _ (pts4 _ a b c d (by simp)) (by simp)).out).mono ?_
   rintro e w98 ⟨rfl,hb98⟩
   have HB:=Lib.hid (below_next (below_next HB.out HB.out.size (by repeat (first|exact Below.refl _ _|refine below_alloc ?_))) (by first|exact HB.out.size|(simp;done)|(have:=HB.out.size;simp at this ⊢;omega)) hb98)
   obtain⟨q98_0,q98_1,q98_2,q98_3,q98_4,q98_5,q98_6,q98_7⟩:=(HC _ HB.out).out
   clear hb98
   go_wp2_with fail
   go_ret
   exact⟨rfl,box_end HB.out (by repeat (first|exact Below.refl _ _|refine below_alloc ?_))⟩
end Go.Proofs.Ythopjhifepijiaa
