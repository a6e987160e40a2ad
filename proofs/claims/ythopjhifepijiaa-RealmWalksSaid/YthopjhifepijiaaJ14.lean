/- Lemmas on the way to the statement. -/
import Derived.Test.YthopjhifepijiaaJ13
set_option linter.unusedSimpArgs false
set_option linter.unusedVariables false
namespace Go.Proofs.Ythopjhifepijiaa
open Go.RowKit
theorem ends_cases (a b c d:Pt):(decide (a=c)=true∧Hid ((a=c∨a=d∨b=c∨b=d)=True))∨(decide (a=c)=false∧decide (a=d)=true∧Hid ((a=c∨a=d∨b=c∨b=d)=True))∨(decide (a=c)=false∧decide (a=d)=false∧decide (b=c)=true∧Hid ((a=c∨a=d∨b=c∨b=d)=True))∨
  (decide (a=c)=false∧decide (a=d)=false∧decide (b=c)=false∧decide (b=d)=true∧Hid ((a=c∨a=d∨b=c∨b=d)=True))∨(decide (a=c)=false∧decide (a=d)=false∧decide (b=c)=false∧decide (b=d)=false∧Hid ((a=c∨a=d∨b=c∨b=d)=False)):=by
 by_cases h1:a=c
 ·exact .inl ⟨decide_eq_true h1,Lib.hid (by simp[h1])⟩
 ·by_cases h2:a=d
  ·exact .inr (.inl ⟨decide_eq_false h1,decide_eq_true h2,Lib.hid (by simp[h2])⟩)
  ·by_cases h3:b=c
   ·exact .inr (.inr (.inl ⟨decide_eq_false h1,decide_eq_false h2,decide_eq_true h3,Lib.hid (by simp[h3])⟩))
   ·by_cases h4:b=d
    ·exact .inr (.inr (.inr (.inl ⟨decide_eq_false h1,decide_eq_false h2,decide_eq_false h3,decide_eq_true h4,Lib.hid (by simp[h4])⟩)))
    ·exact .inr (.inr (.inr (.inr ⟨decide_eq_false h1,decide_eq_false h2,decide_eq_false h3,decide_eq_false h4,Lib.hid (by simp[h1,h2,h3,h4])⟩)))
set_option maxRecDepth 100000 in
set_option maxHeartbeats 8000000 in
theorem r5meet_any (a b c d:Pt) (w:World) (ha:inB a=true) (hb:inB b=true) (hc:inB c=true) (hd:inB d=true) (hab:a≠b) (hcd:c≠d):Calls Try.prog 25 #[.agg #[.int .i64 a.x, .int .i64 a.y], .agg #[.int .i64 b.x, .int .i64 b.y], .agg #[.int .i64 c.x, .int .i64 c.y], .agg #[.int .i64 d.x, .int .i64 d.y]] w fun e w'=>e= .returned (.bool (meetB a b c d))∧Below w.heap.size w w':=by
 rw[←meetR_eq ha hb hc hd hab hcd]
 have O1:=fun w=>Lib.hid (r5on_any a c d w ha hc hd)
 have O2:=fun w=>Lib.hid (r5on_any b c d w hb hc hd)
 have O3:=fun w=>Lib.hid (r5on_any c a b w hc ha hb)
 have O4:=fun w=>Lib.hid (r5on_any d a b w hd ha hb)
 have O5:=fun w=>Lib.hid (r5within_any a c d w ha hc hd)
 have O6:=fun w=>Lib.hid (r5within_any b c d w hb hc hd)
 have T1:=fun w=>Lib.hid (r5turn_any a b c w ha hb hc)
 have T2:=fun w=>Lib.hid (r5turn_any a b d w ha hb hd)
 have T3:=fun w=>Lib.hid (r5turn_any c d a w hc hd ha)
 have T4:=fun w=>Lib.hid (r5turn_any c d b w hc hd hb)
 unfold meetR
 rw[onR_eq ha hc hd,onR_eq hb hc hd,onR_eq hc ha hb,onR_eq hd ha hb]
 clear ha hb hc hd hab hcd
 generalize onB a c d=o1 at*
 generalize onB b c d=o2 at*
 generalize onB c a b=o3 at*
 generalize onB d a b=o4 at*
 generalize wthR a c d=o5 at*
 generalize wthR b c d=o6 at*
 generalize trn a b c=t1 at*
 generalize trn a b d=t2 at*
 generalize trn c d a=t3 at*
 generalize trn c d b=t4 at*
 by_cases h12:t1=0∧t2=0
 ·rw[if_pos h12]
  obtain⟨rfl,rfl⟩:=h12
  clear T3 T4
  cases o1
  ·cases o2
   ·cases o3
    ·cases o4
     ·cases o5
      ·go_enter Try.func25,Try.ntmps25
       go_wp2_with fail
       first|refine wp_name (fun W hW=> ?_)|refine calls_name (fun W hW=> ?_)
       have HW:Hid (Below w.heap.size w W):=Lib.hid (by rw[←hW];repeat (first|exact Below.refl _ _|refine below_alloc ?_))
       have HWs:Hid (W.heap.size=w.heap.size+1+1+1+1):=Lib.hid (by rw[←hW];simp)
       have HBW:Hid (W.heap.size≤W.heap.size):=Lib.hid (by have:=HWs.out;omega)
       have HC:=fun(W1:World) (hb:Below (W.heap.size) W W1)=>Lib.hid (show W1.cell? ⟨w.heap.size,0,none⟩=some (.int .i64 a.x)∧W1.cell? ⟨w.heap.size,1,none⟩=some (.int .i64 a.y)∧W1.cell? ⟨w.heap.size+1,0,none⟩=some (.int .i64 b.x)∧W1.cell? ⟨w.heap.size+1,1,none⟩=some (.int .i64 b.y)∧W1.cell? ⟨w.heap.size+1+1,0,none⟩=some (.int .i64 c.x)∧W1.cell? ⟨w.heap.size+1+1,1,none⟩=some (.int .i64 c.y)∧W1.cell? ⟨w.heap.size+1+1+1,0,none⟩=some (.int .i64 d.x)∧W1.cell? ⟨w.heap.size+1+1+1,1,none⟩=some (.int .i64 d.y) from by exact⟨(hb.cell (p:=⟨w.heap.size,0,none⟩) (by show w.heap.size<W.heap.size;have:=HWs.out;omega)).trans (by rw[←hW];clear hW;go_simp),(hb.cell (p:=⟨w.heap.size,1,none⟩) (by show w.heap.size<W.heap.size;have:=HWs.out;omega)).trans (by rw[←hW];clear hW;go_simp),(hb.cell (p:=⟨w.heap.size+1,0,none⟩) (by show w.heap.size+1<W.heap.size;have:=HWs.out;omega)).trans (by rw[←hW];clear hW;go_simp),(hb.cell (p:=⟨w.heap.size+1,1,none⟩) (by show w.heap.size+1<W.heap.size;have:=HWs.out;omega)).trans (by rw[←hW];clear hW;go_simp),(hb.cell (p:=⟨w.heap.size+1+1,0,none⟩) (by show w.heap.size+1+1<W.heap.size;have:=HWs.out;omega)).trans (by rw[←hW];clear hW;go_simp),(hb.cell (p:=⟨w.heap.size+1+1,1,none⟩) (by show w.heap.size+1+1<W.heap.size;have:=HWs.out;omega)).trans (by rw[←hW];clear hW;go_simp),(hb.cell (p:=⟨w.heap.size+1+1+1,0,none⟩) (by show w.heap.size+1+1+1<W.heap.size;have:=HWs.out;omega)).trans (by rw[←hW];clear hW;go_simp),(hb.cell (p:=⟨w.heap.size+1+1+1,1,none⟩) (by show w.heap.size+1+1+1<W.heap.size;have:=HWs.out;omega)).trans (by rw[←hW];clear hW;go_simp)⟩)
       have HB:=Lib.hid (Below.refl (W.heap.size) W)
       clear hW
       obtain⟨q1_0,q1_1,q1_2,q1_3,q1_4,q1_5,q1_6,q1_7⟩:=(HC _ HB.out).out
       have r1_0:=Nat.lt_of_lt_of_le (show w.heap.size<W.heap.size by have:=HWs.out;omega) HB.out.size
       have r1_1:=Nat.lt_of_lt_of_le (show w.heap.size+1<W.heap.size by have:=HWs.out;omega) HB.out.size
       have r1_2:=Nat.lt_of_lt_of_le (show w.heap.size+1+1<W.heap.size by have:=HWs.out;omega) HB.out.size
       have r1_3:=Nat.lt_of_lt_of_le (show w.heap.size+1+1+1<W.heap.size by have:=HWs.out;omega) HB.out.size
       refine((T1 _).out).mono ?_
       rintro e w2 ⟨rfl,hb2⟩
       have HB:=Lib.hid (below_next (below_next HB.out (Nat.le_trans HBW.out HB.out.size) (by repeat (first|exact Below.refl _ _|refine below_alloc ?_))) (by first|exact(Nat.le_trans HBW.out HB.out.size)|(simp;done)|(have h1:=HBW.out;have h2:=HB.out.size;simp;omega)) hb2)
       clear q1_0 q1_1 q1_2 q1_3 q1_4 q1_5 q1_6 q1_7 r1_0 r1_1 r1_2 r1_3
       obtain⟨q2_0,q2_1,q2_2,q2_3,q2_4,q2_5,q2_6,q2_7⟩:=(HC _ HB.out).out
       clear hb2
       have r2_0:=Nat.lt_of_lt_of_le (show w.heap.size<W.heap.size by have:=HWs.out;omega) HB.out.size
       have r2_1:=Nat.lt_of_lt_of_le (show w.heap.size+1<W.heap.size by have:=HWs.out;omega) HB.out.size
       have r2_2:=Nat.lt_of_lt_of_le (show w.heap.size+1+1<W.heap.size by have:=HWs.out;omega) HB.out.size
       have r2_3:=Nat.lt_of_lt_of_le (show w.heap.size+1+1+1<W.heap.size by have:=HWs.out;omega) HB.out.size
       go_wp2_with fail
       refine((T2 _).out).mono ?_
       rintro e w3 ⟨rfl,hb3⟩
       have HB:=Lib.hid (below_next (below_next HB.out (Nat.le_trans HBW.out HB.out.size) (by repeat (first|exact Below.refl _ _|refine below_alloc ?_))) (by first|exact(Nat.le_trans HBW.out HB.out.size)|(simp;done)|(have h1:=HBW.out;have h2:=HB.out.size;simp;omega)) hb3)
       clear q2_0 q2_1 q2_2 q2_3 q2_4 q2_5 q2_6 q2_7 r2_0 r2_1 r2_2 r2_3
       obtain⟨q3_0,q3_1,q3_2,q3_3,q3_4,q3_5,q3_6,q3_7⟩:=(HC _ HB.out).out
       clear hb3
       have r3_0:=Nat.lt_of_lt_of_le (show w.heap.size<W.heap.size by have:=HWs.out;omega) HB.out.size
       have r3_1:=Nat.lt_of_lt_of_le (show w.heap.size+1<W.heap.size by have:=HWs.out;omega) HB.out.size
       have r3_2:=Nat.lt_of_lt_of_le (show w.heap.size+1+1<W.heap.size by have:=HWs.out;omega) HB.out.size
       have r3_3:=Nat.lt_of_lt_of_le (show w.heap.size+1+1+1<W.heap.size by have:=HWs.out;omega) HB.out.size
       go_wp2_with fail
       refine((O1 _).out).mono ?_
       rintro e w4 ⟨rfl,hb4⟩
       have HB:=Lib.hid (below_next (below_next HB.out (Nat.le_trans HBW.out HB.out.size) (by repeat (first|exact Below.refl _ _|refine below_alloc ?_))) (by first|exact(Nat.le_trans HBW.out HB.out.size)|(simp;done)|(have h1:=HBW.out;have h2:=HB.out.size;simp;omega)) hb4)
       clear q3_0 q3_1 q3_2 q3_3 q3_4 q3_5 q3_6 q3_7 r3_0 r3_1 r3_2 r3_3
       obtain⟨q4_0,q4_1,q4_2,q4_3,q4_4,q4_5,q4_6,q4_7⟩:=(HC _ HB.out).out
       clear hb4
       have r4_0:=Nat.lt_of_lt_of_le (show w.heap.size<W.heap.size by have:=HWs.out;omega) HB.out.size
       have r4_1:=Nat.lt_of_lt_of_le (show w.heap.size+1<W.heap.size by have:=HWs.out;omega) HB.out.size
       have r4_2:=Nat.lt_of_lt_of_le (show w.heap.size+1+1<W.heap.size by have:=HWs.out;omega) HB.out.size
       have r4_3:=Nat.lt_of_lt_of_le (show w.heap.size+1+1+1<W.heap.size by have:=HWs.out;omega) HB.out.size
       go_wp2_with fail
       refine((O2 _).out).mono ?_
       rintro e w5 ⟨rfl,hb5⟩
       have HB:=Lib.hid (below_next (below_next HB.out (Nat.le_trans HBW.out HB.out.size) (by repeat (first|exact Below.refl _ _|refine below_alloc ?_))) (by first|exact(Nat.le_trans HBW.out HB.out.size)|(simp;done)|(have h1:=HBW.out;have h2:=HB.out.size;simp;omega)) hb5)
       clear q4_0 q4_1 q4_2 q4_3 q4_4 q4_5 q4_6 q4_7 r4_0 r4_1 r4_2 r4_3
       obtain⟨q5_0,q5_1,q5_2,q5_3,q5_4,q5_5,q5_6,q5_7⟩:=(HC _ HB.out).out
       clear hb5
       have r5_0:=Nat.lt_of_lt_of_le (show w.heap.size<W.heap.size by have:=HWs.out;omega) HB.out.size
       have r5_1:=Nat.lt_of_lt_of_le (show w.heap.size+1<W.heap.size by have:=HWs.out;omega) HB.out.size
       have r5_2:=Nat.lt_of_lt_of_le (show w.heap.size+1+1<W.heap.size by have:=HWs.out;omega) HB.out.size
       have r5_3:=Nat.lt_of_lt_of_le (show w.heap.size+1+1+1<W.heap.size by have:=HWs.out;omega) HB.out.size
       go_wp2_with fail
       refine((O3 _).out).mono ?_
       rintro e w6 ⟨rfl,hb6⟩
       have HB:=Lib.hid (below_next (below_next HB.out (Nat.le_trans HBW.out HB.out.size) (by repeat (first|exact Below.refl _ _|refine below_alloc ?_))) (by first|exact(Nat.le_trans HBW.out HB.out.size)|(simp;done)|(have h1:=HBW.out;have h2:=HB.out.size;simp;omega)) hb6)
       clear q5_0 q5_1 q5_2 q5_3 q5_4 q5_5 q5_6 q5_7 r5_0 r5_1 r5_2 r5_3
       obtain⟨q6_0,q6_1,q6_2,q6_3,q6_4,q6_5,q6_6,q6_7⟩:=(HC _ HB.out).out
       clear hb6
       have r6_0:=Nat.lt_of_lt_of_le (show w.heap.size<W.heap.size by have:=HWs.out;omega) HB.out.size
       have r6_1:=Nat.lt_of_lt_of_le (show w.heap.size+1<W.heap.size by have:=HWs.out;omega) HB.out.size
       have r6_2:=Nat.lt_of_lt_of_le (show w.heap.size+1+1<W.heap.size by have:=HWs.out;omega) HB.out.size
       have r6_3:=Nat.lt_of_lt_of_le (show w.heap.size+1+1+1<W.heap.size by have:=HWs.out;omega) HB.out.size
       go_wp2_with fail
       refine((O4 _).out).mono ?_
       rintro e w7 ⟨rfl,hb7⟩
       have HB:=Lib.hid (below_next (below_next HB.out (Nat.le_trans HBW.out HB.out.size) (by repeat (first|exact Below.refl _ _|refine below_alloc ?_))) (by first|exact(Nat.le_trans HBW.out HB.out.size)|(simp;done)|(have h1:=HBW.out;have h2:=HB.out.size;simp;omega)) hb7)
       clear q6_0 q6_1 q6_2 q6_3 q6_4 q6_5 q6_6 q6_7 r6_0 r6_1 r6_2 r6_3
       obtain⟨q7_0,q7_1,q7_2,q7_3,q7_4,q7_5,q7_6,q7_7⟩:=(HC _ HB.out).out
       clear hb7
       have r7_0:=Nat.lt_of_lt_of_le (show w.heap.size<W.heap.size by have:=HWs.out;omega) HB.out.size
       have r7_1:=Nat.lt_of_lt_of_le (show w.heap.size+1<W.heap.size by have:=HWs.out;omega) HB.out.size
       have r7_2:=Nat.lt_of_lt_of_le (show w.heap.size+1+1<W.heap.size by have:=HWs.out;omega) HB.out.size
       have r7_3:=Nat.lt_of_lt_of_le (show w.heap.size+1+1+1<W.heap.size by have:=HWs.out;omega) HB.out.size
       go_wp2_with fail
       refine((O5 _).out).mono ?_
       rintro e w8 ⟨rfl,hb8⟩
       have HB:=Lib.hid (below_next (below_next HB.out (Nat.le_trans HBW.out HB.out.size) (by repeat (first|exact Below.refl _ _|refine below_alloc ?_))) (by first|exact(Nat.le_trans HBW.out HB.out.size)|(simp;done)|(have h1:=HBW.out;have h2:=HB.out.size;simp;omega)) hb8)
       clear q7_0 q7_1 q7_2 q7_3 q7_4 q7_5 q7_6 q7_7 r7_0 r7_1 r7_2 r7_3
       obtain⟨q8_0,q8_1,q8_2,q8_3,q8_4,q8_5,q8_6,q8_7⟩:=(HC _ HB.out).out
       clear hb8
       have r8_0:=Nat.lt_of_lt_of_le (show w.heap.size<W.heap.size by have:=HWs.out;omega) HB.out.size
       have r8_1:=Nat.lt_of_lt_of_le (show w.heap.size+1<W.heap.size by have:=HWs.out;omega) HB.out.size
       have r8_2:=Nat.lt_of_lt_of_le (show w.heap.size+1+1<W.heap.size by have:=HWs.out;omega) HB.out.size
       have r8_3:=Nat.lt_of_lt_of_le (show w.heap.size+1+1+1<W.heap.size by have:=HWs.out;omega) HB.out.size
       go_wp2_with fail
       go_ret
       exact⟨rfl,(HW.out.trans (HB.out.mono (by have:=HWs.out;omega)))⟩
      ·go_enter Try.func25,Try.ntmps25
       go_wp2_with fail
       first|refine wp_name (fun W hW=> ?_)|refine calls_name (fun W hW=> ?_)
       have HW:Hid (Below w.heap.size w W):=Lib.hid (by rw[←hW];repeat (first|exact Below.refl _ _|refine below_alloc ?_))
       have HWs:Hid (W.heap.size=w.heap.size+1+1+1+1):=Lib.hid (by rw[←hW];simp)
       have HBW:Hid (W.heap.size≤W.heap.size):=Lib.hid (by have:=HWs.out;omega)
       have HC:=fun(W1:World) (hb:Below (W.heap.size) W W1)=>Lib.hid (show W1.cell? ⟨w.heap.size,0,none⟩=some (.int .i64 a.x)∧W1.cell? ⟨w.heap.size,1,none⟩=some (.int .i64 a.y)∧W1.cell? ⟨w.heap.size+1,0,none⟩=some (.int .i64 b.x)∧W1.cell? ⟨w.heap.size+1,1,none⟩=some (.int .i64 b.y)∧W1.cell? ⟨w.heap.size+1+1,0,none⟩=some (.int .i64 c.x)∧W1.cell? ⟨w.heap.size+1+1,1,none⟩=some (.int .i64 c.y)∧W1.cell? ⟨w.heap.size+1+1+1,0,none⟩=some (.int .i64 d.x)∧W1.cell? ⟨w.heap.size+1+1+1,1,none⟩=some (.int .i64 d.y) from by exact⟨(hb.cell (p:=⟨w.heap.size,0,none⟩) (by show w.heap.size<W.heap.size;have:=HWs.out;omega)).trans (by rw[←hW];clear hW;go_simp),(hb.cell (p:=⟨w.heap.size,1,none⟩) (by show w.heap.size<W.heap.size;have:=HWs.out;omega)).trans (by rw[←hW];clear hW;go_simp),(hb.cell (p:=⟨w.heap.size+1,0,none⟩) (by show w.heap.size+1<W.heap.size;have:=HWs.out;omega)).trans (by rw[←hW];clear hW;go_simp),(hb.cell (p:=⟨w.heap.size+1,1,none⟩) (by show w.heap.size+1<W.heap.size;have:=HWs.out;omega)).trans (by rw[←hW];clear hW;go_simp),(hb.cell (p:=⟨w.heap.size+1+1,0,none⟩) (by show w.heap.size+1+1<W.heap.size;have:=HWs.out;omega)).trans (by rw[←hW];clear hW;go_simp),(hb.cell (p:=⟨w.heap.size+1+1,1,none⟩) (by show w.heap.size+1+1<W.heap.size;have:=HWs.out;omega)).trans (by rw[←hW];clear hW;go_simp),(hb.cell (p:=⟨w.heap.size+1+1+1,0,none⟩) (by show w.heap.size+1+1+1<W.heap.size;have:=HWs.out;omega)).trans (by rw[←hW];clear hW;go_simp),(hb.cell (p:=⟨w.heap.size+1+1+1,1,none⟩) (by show w.heap.size+1+1+1<W.heap.size;have:=HWs.out;omega)).trans (by rw[←hW];clear hW;go_simp)⟩)
       have HB:=Lib.hid (Below.refl (W.heap.size) W)
       clear hW
       obtain⟨q10_0,q10_1,q10_2,q10_3,q10_4,q10_5,q10_6,q10_7⟩:=(HC _ HB.out).out
       have r10_0:=Nat.lt_of_lt_of_le (show w.heap.size<W.heap.size by have:=HWs.out;omega) HB.out.size
       have r10_1:=Nat.lt_of_lt_of_le (show w.heap.size+1<W.heap.size by have:=HWs.out;omega) HB.out.size
       have r10_2:=Nat.lt_of_lt_of_le (show w.heap.size+1+1<W.heap.size by have:=HWs.out;omega) HB.out.size
       have r10_3:=Nat.lt_of_lt_of_le (show w.heap.size+1+1+1<W.heap.size by have:=HWs.out;omega) HB.out.size
       refine((T1 _).out).mono ?_
       rintro e w11 ⟨rfl,hb11⟩
       have HB:=Lib.hid (below_next (below_next HB.out (Nat.le_trans HBW.out HB.out.size) (by repeat (first|exact Below.refl _ _|refine below_alloc ?_))) (by first|exact(Nat.le_trans HBW.out HB.out.size)|(simp;done)|(have h1:=HBW.out;have h2:=HB.out.size;simp;omega)) hb11)
       clear q10_0 q10_1 q10_2 q10_3 q10_4 q10_5 q10_6 q10_7 r10_0 r10_1 r10_2 r10_3
       obtain⟨q11_0,q11_1,q11_2,q11_3,q11_4,q11_5,q11_6,q11_7⟩:=(HC _ HB.out).out
       clear hb11
       have r11_0:=Nat.lt_of_lt_of_le (show w.heap.size<W.heap.size by have:=HWs.out;omega) HB.out.size
       have r11_1:=Nat.lt_of_lt_of_le (show w.heap.size+1<W.heap.size by have:=HWs.out;omega) HB.out.size
       have r11_2:=Nat.lt_of_lt_of_le (show w.heap.size+1+1<W.heap.size by have:=HWs.out;omega) HB.out.size
       have r11_3:=Nat.lt_of_lt_of_le (show w.heap.size+1+1+1<W.heap.size by have:=HWs.out;omega) HB.out.size
       go_wp2_with fail
       refine((T2 _).out).mono ?_
       rintro e w12 ⟨rfl,hb12⟩
       have HB:=Lib.hid (below_next (below_next HB.out (Nat.le_trans HBW.out HB.out.size) (by repeat (first|exact Below.refl _ _|refine below_alloc ?_))) (by first|exact(Nat.le_trans HBW.out HB.out.size)|(simp;done)|(have h1:=HBW.out;have h2:=HB.out.size;simp;omega)) hb12)
       clear q11_0 q11_1 q11_2 q11_3 q11_4 q11_5 q11_6 q11_7 r11_0 r11_1 r11_2 r11_3
       obtain⟨q12_0,q12_1,q12_2,q12_3,q12_4,q12_5,q12_6,q12_7⟩:=(HC _ HB.out).out
       clear hb12
       have r12_0:=Nat.lt_of_lt_of_le (show w.heap.size<W.heap.size by have:=HWs.out;omega) HB.out.size
       have r12_1:=Nat.lt_of_lt_of_le (show w.heap.size+1<W.heap.size by have:=HWs.out;omega) HB.out.size
       have r12_2:=Nat.lt_of_lt_of_le (show w.heap.size+1+1<W.heap.size by have:=HWs.out;omega) HB.out.size
       have r12_3:=Nat.lt_of_lt_of_le (show w.heap.size+1+1+1<W.heap.size by have:=HWs.out;omega) HB.out.size
       go_wp2_with fail
       refine((O1 _).out).mono ?_
       rintro e w13 ⟨rfl,hb13⟩
       have HB:=Lib.hid (below_next (below_next HB.out (Nat.le_trans HBW.out HB.out.size) (by repeat (first|exact Below.refl _ _|refine below_alloc ?_))) (by first|exact(Nat.le_trans HBW.out HB.out.size)|(simp;done)|(have h1:=HBW.out;have h2:=HB.out.size;simp;omega)) hb13)
       clear q12_0 q12_1 q12_2 q12_3 q12_4 q12_5 q12_6 q12_7 r12_0 r12_1 r12_2 r12_3
       obtain⟨q13_0,q13_1,q13_2,q13_3,q13_4,q13_5,q13_6,q13_7⟩:=(HC _ HB.out).out
       clear hb13
       have r13_0:=Nat.lt_of_lt_of_le (show w.heap.size<W.heap.size by have:=HWs.out;omega) HB.out.size
       have r13_1:=Nat.lt_of_lt_of_le (show w.heap.size+1<W.heap.size by have:=HWs.out;omega) HB.out.size
       have r13_2:=Nat.lt_of_lt_of_le (show w.heap.size+1+1<W.heap.size by have:=HWs.out;omega) HB.out.size
       have r13_3:=Nat.lt_of_lt_of_le (show w.heap.size+1+1+1<W.heap.size by have:=HWs.out;omega) HB.out.size
       go_wp2_with fail
       refine((O2 _).out).mono ?_
       rintro e w14 ⟨rfl,hb14⟩
       have HB:=Lib.hid (below_next (below_next HB.out (Nat.le_trans HBW.out HB.out.size) (by repeat (first|exact Below.refl _ _|refine below_alloc ?_))) (by first|exact(Nat.le_trans HBW.out HB.out.size)|(simp;done)|(have h1:=HBW.out;have h2:=HB.out.size;simp;omega)) hb14)
       clear q13_0 q13_1 q13_2 q13_3 q13_4 q13_5 q13_6 q13_7 r13_0 r13_1 r13_2 r13_3
       obtain⟨q14_0,q14_1,q14_2,q14_3,q14_4,q14_5,q14_6,q14_7⟩:=(HC _ HB.out).out
       clear hb14
       have r14_0:=Nat.lt_of_lt_of_le (show w.heap.size<W.heap.size by have:=HWs.out;omega) HB.out.size
       have r14_1:=Nat.lt_of_lt_of_le (show w.heap.size+1<W.heap.size by have:=HWs.out;omega) HB.out.size
       have r14_2:=Nat.lt_of_lt_of_le (show w.heap.size+1+1<W.heap.size by have:=HWs.out;omega) HB.out.size
       have r14_3:=Nat.lt_of_lt_of_le (show w.heap.size+1+1+1<W.heap.size by have:=HWs.out;omega) HB.out.size
       go_wp2_with fail
       refine((O3 _).out).mono ?_
       rintro e w15 ⟨rfl,hb15⟩
       have HB:=Lib.hid (below_next (below_next HB.out (Nat.le_trans HBW.out HB.out.size) (by repeat (first|exact Below.refl _ _|refine below_alloc ?_))) (by first|exact(Nat.le_trans HBW.out HB.out.size)|(simp;done)|(have h1:=HBW.out;have h2:=HB.out.size;simp;omega)) hb15)
       clear q14_0 q14_1 q14_2 q14_3 q14_4 q14_5 q14_6 q14_7 r14_0 r14_1 r14_2 r14_3
       obtain⟨q15_0,q15_1,q15_2,q15_3,q15_4,q15_5,q15_6,q15_7⟩:=(HC _ HB.out).out
       clear hb15
       have r15_0:=Nat.lt_of_lt_of_le (show w.heap.size<W.heap.size by have:=HWs.out;omega) HB.out.size
       have r15_1:=Nat.lt_of_lt_of_le (show w.heap.size+1<W.heap.size by have:=HWs.out;omega) HB.out.size
       have r15_2:=Nat.lt_of_lt_of_le (show w.heap.size+1+1<W.heap.size by have:=HWs.out;omega) HB.out.size
       have r15_3:=Nat.lt_of_lt_of_le (show w.heap.size+1+1+1<W.heap.size by have:=HWs.out;omega) HB.out.size
       go_wp2_with fail
       refine((O4 _).out).mono ?_
       rintro e w16 ⟨rfl,hb16⟩
       have HB:=Lib.hid (below_next (below_next HB.out (Nat.le_trans HBW.out HB.out.size) (by repeat (first|exact Below.refl _ _|refine below_alloc ?_))) (by first|exact(Nat.le_trans HBW.out HB.out.size)|(simp;done)|(have h1:=HBW.out;have h2:=HB.out.size;simp;omega)) hb16)
       clear q15_0 q15_1 q15_2 q15_3 q15_4 q15_5 q15_6 q15_7 r15_0 r15_1 r15_2 r15_3
       obtain⟨q16_0,q16_1,q16_2,q16_3,q16_4,q16_5,q16_6,q16_7⟩:=(HC _ HB.out).out
       clear hb16
       have r16_0:=Nat.lt_of_lt_of_le (show w.heap.size<W.heap.size by have:=HWs.out;omega) HB.out.size
       have r16_1:=Nat.lt_of_lt_of_le (show w.heap.size+1<W.heap.size by have:=HWs.out;omega) HB.out.size
       have r16_2:=Nat.lt_of_lt_of_le (show w.heap.size+1+1<W.heap.size by have:=HWs.out;omega) HB.out.size
       have r16_3:=Nat.lt_of_lt_of_le (show w.heap.size+1+1+1<W.heap.size by have:=HWs.out;omega) HB.out.size
       go_wp2_with fail
       refine((O5 _).out).mono ?_
       rintro e w17 ⟨rfl,hb17⟩
       have HB:=Lib.hid (below_next (below_next HB.out (Nat.le_trans HBW.out HB.out.size) (by repeat (first|exact Below.refl _ _|refine below_alloc ?_))) (by first|exact(Nat.le_trans HBW.out HB.out.size)|(simp;done)|(have h1:=HBW.out;have h2:=HB.out.size;simp;omega)) hb17)
       clear q16_0 q16_1 q16_2 q16_3 q16_4 q16_5 q16_6 q16_7 r16_0 r16_1 r16_2 r16_3
       obtain⟨q17_0,q17_1,q17_2,q17_3,q17_4,q17_5,q17_6,q17_7⟩:=(HC _ HB.out).out
       clear hb17
       have r17_0:=Nat.lt_of_lt_of_le (show w.heap.size<W.heap.size by have:=HWs.out;omega) HB.out.size
       have r17_1:=Nat.lt_of_lt_of_le (show w.heap.size+1<W.heap.size by have:=HWs.out;omega) HB.out.size
       have r17_2:=Nat.lt_of_lt_of_le (show w.heap.size+1+1<W.heap.size by have:=HWs.out;omega) HB.out.size
       have r17_3:=Nat.lt_of_lt_of_le (show w.heap.size+1+1+1<W.heap.size by have:=HWs.out;omega) HB.out.size
       go_wp2_with fail
       refine((O6 _).out).mono ?_
       rintro e w18 ⟨rfl,hb18⟩
       have HB:=Lib.hid (below_next (below_next HB.out (Nat.le_trans HBW.out HB.out.size) (by repeat (first|exact Below.refl _ _|refine below_alloc ?_))) (by first|exact(Nat.le_trans HBW.out HB.out.size)|(simp;done)|(have h1:=HBW.out;have h2:=HB.out.size;simp;omega)) hb18)
       clear q17_0 q17_1 q17_2 q17_3 q17_4 q17_5 q17_6 q17_7 r17_0 r17_1 r17_2 r17_3
       obtain⟨q18_0,q18_1,q18_2,q18_3,q18_4,q18_5,q18_6,q18_7⟩:=(HC _ HB.out).out
       clear hb18
       have r18_0:=Nat.lt_of_lt_of_le (show w.heap.size<W.heap.size by have:=HWs.out;omega) HB.out.size
       have r18_1:=Nat.lt_of_lt_of_le (show w.heap.size+1<W.heap.size by have:=HWs.out;omega) HB.out.size
       have r18_2:=Nat.lt_of_lt_of_le (show w.heap.size+1+1<W.heap.size by have:=HWs.out;omega) HB.out.size
       have r18_3:=Nat.lt_of_lt_of_le (show w.heap.size+1+1+1<W.heap.size by have:=HWs.out;omega) HB.out.size
       go_wp2_with fail
       go_ret
       exact⟨rfl,(HW.out.trans (HB.out.mono (by have:=HWs.out;omega)))⟩
     ·go_enter Try.func25,Try.ntmps25
      go_wp2_with fail
      first|refine wp_name (fun W hW=> ?_)|refine calls_name (fun W hW=> ?_)
      have HW:Hid (Below w.heap.size w W):=Lib.hid (by rw[←hW];repeat (first|exact Below.refl _ _|refine below_alloc ?_))
      have HWs:Hid (W.heap.size=w.heap.size+1+1+1+1):=Lib.hid (by rw[←hW];simp)
      have HBW:Hid (W.heap.size≤W.heap.size):=Lib.hid (by have:=HWs.out;omega)
      have HC:=fun(W1:World) (hb:Below (W.heap.size) W W1)=>Lib.hid (show W1.cell? ⟨w.heap.size,0,none⟩=some (.int .i64 a.x)∧W1.cell? ⟨w.heap.size,1,none⟩=some (.int .i64 a.y)∧W1.cell? ⟨w.heap.size+1,0,none⟩=some (.int .i64 b.x)∧W1.cell? ⟨w.heap.size+1,1,none⟩=some (.int .i64 b.y)∧W1.cell? ⟨w.heap.size+1+1,0,none⟩=some (.int .i64 c.x)∧W1.cell? ⟨w.heap.size+1+1,1,none⟩=some (.int .i64 c.y)∧W1.cell? ⟨w.heap.size+1+1+1,0,none⟩=some (.int .i64 d.x)∧W1.cell? ⟨w.heap.size+1+1+1,1,none⟩=some (.int .i64 d.y) from by exact⟨(hb.cell (p:=⟨w.heap.size,0,none⟩) (by show w.heap.size<W.heap.size;have:=HWs.out;omega)).trans (by rw[←hW];clear hW;go_simp),(hb.cell (p:=⟨w.heap.size,1,none⟩) (by show w.heap.size<W.heap.size;have:=HWs.out;omega)).trans (by rw[←hW];clear hW;go_simp),(hb.cell (p:=⟨w.heap.size+1,0,none⟩) (by show w.heap.size+1<W.heap.size;have:=HWs.out;omega)).trans (by rw[←hW];clear hW;go_simp),(hb.cell (p:=⟨w.heap.size+1,1,none⟩) (by show w.heap.size+1<W.heap.size;have:=HWs.out;omega)).trans (by rw[←hW];clear hW;go_simp),(hb.cell (p:=⟨w.heap.size+1+1,0,none⟩) (by show w.heap.size+1+1<W.heap.size;have:=HWs.out;omega)).trans (by rw[←hW];clear hW;go_simp),(hb.cell (p:=⟨w.heap.size+1+1,1,none⟩) (by show w.heap.size+1+1<W.heap.size;have:=HWs.out;omega)).trans (by rw[←hW];clear hW;go_simp),(hb.cell (p:=⟨w.heap.size+1+1+1,0,none⟩) (by show w.heap.size+1+1+1<W.heap.size;have:=HWs.out;omega)).trans (by rw[←hW];clear hW;go_simp),(hb.cell (p:=⟨w.heap.size+1+1+1,1,none⟩) (by show w.heap.size+1+1+1<W.heap.size;have:=HWs.out;omega)).trans (by rw[←hW];clear hW;go_simp)⟩)
      have HB:=Lib.hid (Below.refl (W.heap.size) W)
      clear hW
      obtain⟨q20_0,q20_1,q20_2,q20_3,q20_4,q20_5,q20_6,q20_7⟩:=(HC _ HB.out).out
      have r20_0:=Nat.lt_of_lt_of_le (show w.heap.size<W.heap.size by have:=HWs.out;omega) HB.out.size
      have r20_1:=Nat.lt_of_lt_of_le (show w.heap.size+1<W.heap.size by have:=HWs.out;omega) HB.out.size
      have r20_2:=Nat.lt_of_lt_of_le (show w.heap.size+1+1<W.heap.size by have:=HWs.out;omega) HB.out.size
      have r20_3:=Nat.lt_of_lt_of_le (show w.heap.size+1+1+1<W.heap.size by have:=HWs.out;omega) HB.out.size
      refine((T1 _).out).mono ?_
      rintro e w21 ⟨rfl,hb21⟩
      have HB:=Lib.hid (below_next (below_next HB.out (Nat.le_trans HBW.out HB.out.size) (by repeat (first|exact Below.refl _ _|refine below_alloc ?_))) (by first|exact(Nat.le_trans HBW.out HB.out.size)|(simp;done)|(have h1:=HBW.out;have h2:=HB.out.size;simp;omega)) hb21)
      clear q20_0 q20_1 q20_2 q20_3 q20_4 q20_5 q20_6 q20_7 r20_0 r20_1 r20_2 r20_3
      obtain⟨q21_0,q21_1,q21_2,q21_3,q21_4,q21_5,q21_6,q21_7⟩:=(HC _ HB.out).out
      clear hb21
      have r21_0:=Nat.lt_of_lt_of_le (show w.heap.size<W.heap.size by have:=HWs.out;omega) HB.out.size
      have r21_1:=Nat.lt_of_lt_of_le (show w.heap.size+1<W.heap.size by have:=HWs.out;omega) HB.out.size
      have r21_2:=Nat.lt_of_lt_of_le (show w.heap.size+1+1<W.heap.size by have:=HWs.out;omega) HB.out.size
      have r21_3:=Nat.lt_of_lt_of_le (show w.heap.size+1+1+1<W.heap.size by have:=HWs.out;omega) HB.out.size
      go_wp2_with fail
      refine((T2 _).out).mono ?_
      rintro e w22 ⟨rfl,hb22⟩
      have HB:=Lib.hid (below_next (below_next HB.out (Nat.le_trans HBW.out HB.out.size) (by repeat (first|exact Below.refl _ _|refine below_alloc ?_))) (by first|exact(Nat.le_trans HBW.out HB.out.size)|(simp;done)|(have h1:=HBW.out;have h2:=HB.out.size;simp;omega)) hb22)
      clear q21_0 q21_1 q21_2 q21_3 q21_4 q21_5 q21_6 q21_7 r21_0 r21_1 r21_2 r21_3
      obtain⟨q22_0,q22_1,q22_2,q22_3,q22_4,q22_5,q22_6,q22_7⟩:=(HC _ HB.out).out
      clear hb22
      have r22_0:=Nat.lt_of_lt_of_le (show w.heap.size<W.heap.size by have:=HWs.out;omega) HB.out.size
      have r22_1:=Nat.lt_of_lt_of_le (show w.heap.size+1<W.heap.size by have:=HWs.out;omega) HB.out.size
      have r22_2:=Nat.lt_of_lt_of_le (show w.heap.size+1+1<W.heap.size by have:=HWs.out;omega) HB.out.size
      have r22_3:=Nat.lt_of_lt_of_le (show w.heap.size+1+1+1<W.heap.size by have:=HWs.out;omega) HB.out.size
      go_wp2_with fail
      refine((O1 _).out).mono ?_
      rintro e w23 ⟨rfl,hb23⟩
      have HB:=Lib.hid (below_next (below_next HB.out (Nat.le_trans HBW.out HB.out.size) (by repeat (first|exact Below.refl _ _|refine below_alloc ?_))) (by first|exact(Nat.le_trans HBW.out HB.out.size)|(simp;done)|(have h1:=HBW.out;have h2:=HB.out.size;simp;omega)) hb23)
      clear q22_0 q22_1 q22_2 q22_3 q22_4 q22_5 q22_6 q22_7 r22_0 r22_1 r22_2 r22_3
      obtain⟨q23_0,q23_1,q23_2,q23_3,q23_4,q23_5,q23_6,q23_7⟩:=(HC _ HB.out).out
      clear hb23
      have r23_0:=Nat.lt_of_lt_of_le (show w.heap.size<W.heap.size by have:=HWs.out;omega) HB.out.size
      have r23_1:=Nat.lt_of_lt_of_le (show w.heap.size+1<W.heap.size by have:=HWs.out;omega) HB.out.size
      have r23_2:=Nat.lt_of_lt_of_le (show w.heap.size+1+1<W.heap.size by have:=HWs.out;omega) HB.out.size
      have r23_3:=Nat.lt_of_lt_of_le (show w.heap.size+1+1+1<W.heap.size by have:=HWs.out;omega) HB.out.size
      go_wp2_with fail
      refine((O2 _).out).mono ?_
      rintro e w24 ⟨rfl,hb24⟩
      have HB:=Lib.hid (below_next (below_next HB.out (Nat.le_trans HBW.out HB.out.size) (by repeat (first|exact Below.refl _ _|refine below_alloc ?_))) (by first|exact(Nat.le_trans HBW.out HB.out.size)|(simp;done)|(have h1:=HBW.out;have h2:=HB.out.size;simp;omega)) hb24)
      clear q23_0 q23_1 q23_2 q23_3 q23_4 q23_5 q23_6 q23_7 r23_0 r23_1 r23_2 r23_3
      obtain⟨q24_0,q24_1,q24_2,q24_3,q24_4,q24_5,q24_6,q24_7⟩:=(HC _ HB.out).out
      clear hb24
      have r24_0:=Nat.lt_of_lt_of_le (show w.heap.size<W.heap.size by have:=HWs.out;omega) HB.out.size
      have r24_1:=Nat.lt_of_lt_of_le (show w.heap.size+1<W.heap.size by have:=HWs.out;omega) HB.out.size
      have r24_2:=Nat.lt_of_lt_of_le (show w.heap.size+1+1<W.heap.size by have:=HWs.out;omega) HB.out.size
      have r24_3:=Nat.lt_of_lt_of_le (show w.heap.size+1+1+1<W.heap.size by have:=HWs.out;omega) HB.out.size
      go_wp2_with fail
      refine((O3 _).out).mono ?_
      rintro e w25 ⟨rfl,hb25⟩
      have HB:=Lib.hid (below_next (below_next HB.out (Nat.le_trans HBW.out HB.out.size) (by repeat (first|exact Below.refl _ _|refine below_alloc ?_))) (by first|exact(Nat.le_trans HBW.out HB.out.size)|(simp;done)|(have h1:=HBW.out;have h2:=HB.out.size;simp;omega)) hb25)
      clear q24_0 q24_1 q24_2 q24_3 q24_4 q24_5 q24_6 q24_7 r24_0 r24_1 r24_2 r24_3
      obtain⟨q25_0,q25_1,q25_2,q25_3,q25_4,q25_5,q25_6,q25_7⟩:=(HC _ HB.out).out
      clear hb25
      have r25_0:=Nat.lt_of_lt_of_le (show w.heap.size<W.heap.size by have:=HWs.out;omega) HB.out.size
      have r25_1:=Nat.lt_of_lt_of_le (show w.heap.size+1<W.heap.size by have:=HWs.out;omega) HB.out.size
      have r25_2:=Nat.lt_of_lt_of_le (show w.heap.size+1+1<W.heap.size by have:=HWs.out;omega) HB.out.size
      have r25_3:=Nat.lt_of_lt_of_le (show w.heap.size+1+1+1<W.heap.size by have:=HWs.out;omega) HB.out.size
      go_wp2_with fail
      refine((O4 _).out).mono ?_
      rintro e w26 ⟨rfl,hb26⟩
      have HB:=Lib.hid (below_next (below_next HB.out (Nat.le_trans HBW.out HB.out.size) (by repeat (first|exact Below.refl _ _|refine below_alloc ?_))) (by first|exact(Nat.le_trans HBW.out HB.out.size)|(simp;done)|(have h1:=HBW.out;have h2:=HB.out.size;simp;omega)) hb26)
      clear q25_0 q25_1 q25_2 q25_3 q25_4 q25_5 q25_6 q25_7 r25_0 r25_1 r25_2 r25_3
      obtain⟨q26_0,q26_1,q26_2,q26_3,q26_4,q26_5,q26_6,q26_7⟩:=(HC _ HB.out).out
      clear hb26
      have r26_0:=Nat.lt_of_lt_of_le (show w.heap.size<W.heap.size by have:=HWs.out;omega) HB.out.size
      have r26_1:=Nat.lt_of_lt_of_le (show w.heap.size+1<W.heap.size by have:=HWs.out;omega) HB.out.size
      have r26_2:=Nat.lt_of_lt_of_le (show w.heap.size+1+1<W.heap.size by have:=HWs.out;omega) HB.out.size
      have r26_3:=Nat.lt_of_lt_of_le (show w.heap.size+1+1+1<W.heap.size by have:=HWs.out;omega) HB.out.size
      go_wp2_with fail
      go_ret
      exact⟨rfl,(HW.out.trans (HB.out.mono (by have:=HWs.out;omega)))⟩
    ·go_enter Try.func25,Try.ntmps25
     go_wp2_with fail
     first|refine wp_name (fun W hW=> ?_)|refine calls_name (fun W hW=> ?_)
     have HW:Hid (Below w.heap.size w W):=Lib.hid (by rw[←hW];repeat (first|exact Below.refl _ _|refine below_alloc ?_))
     have HWs:Hid (W.heap.size=w.heap.size+1+1+1+1):=Lib.hid (by rw[←hW];simp)
     have HBW:Hid (W.heap.size≤W.heap.size):=Lib.hid (by have:=HWs.out;omega)
     have HC:=fun(W1:World) (hb:Below (W.heap.size) W W1)=>Lib.hid (show W1.cell? ⟨w.heap.size,0,none⟩=some (.int .i64 a.x)∧W1.cell? ⟨w.heap.size,1,none⟩=some (.int .i64 a.y)∧W1.cell? ⟨w.heap.size+1,0,none⟩=some (.int .i64 b.x)∧W1.cell? ⟨w.heap.size+1,1,none⟩=some (.int .i64 b.y)∧W1.cell? ⟨w.heap.size+1+1,0,none⟩=some (.int .i64 c.x)∧W1.cell? ⟨w.heap.size+1+1,1,none⟩=some (.int .i64 c.y)∧W1.cell? ⟨w.heap.size+1+1+1,0,none⟩=some (.int .i64 d.x)∧W1.cell? ⟨w.heap.size+1+1+1,1,none⟩=some (.int .i64 d.y) from by exact⟨(hb.cell (p:=⟨w.heap.size,0,none⟩) (by show w.heap.size<W.heap.size;have:=HWs.out;omega)).trans (by rw[←hW];clear hW;go_simp),(hb.cell (p:=⟨w.heap.size,1,none⟩) (by show w.heap.size<W.heap.size;have:=HWs.out;omega)).trans (by rw[←hW];clear hW;go_simp),(hb.cell (p:=⟨w.heap.size+1,0,none⟩) (by show w.heap.size+1<W.heap.size;have:=HWs.out;omega)).trans (by rw[←hW];clear hW;go_simp),(hb.cell (p:=⟨w.heap.size+1,1,none⟩) (by show w.heap.size+1<W.heap.size;have:=HWs.out;omega)).trans (by rw[←hW];clear hW;go_simp),(hb.cell (p:=⟨w.heap.size+1+1,0,none⟩) (by show w.heap.size+1+1<W.heap.size;have:=HWs.out;omega)).trans (by rw[←hW];clear hW;go_simp),(hb.cell (p:=⟨w.heap.size+1+1,1,none⟩) (by show w.heap.size+1+1<W.heap.size;have:=HWs.out;omega)).trans (by rw[←hW];clear hW;go_simp),(hb.cell (p:=⟨w.heap.size+1+1+1,0,none⟩) (by show w.heap.size+1+1+1<W.heap.size;have:=HWs.out;omega)).trans (by rw[←hW];clear hW;go_simp),(hb.cell (p:=⟨w.heap.size+1+1+1,1,none⟩) (by show w.heap.size+1+1+1<W.heap.size;have:=HWs.out;omega)).trans (by rw[←hW];clear hW;go_simp)⟩)
     have HB:=Lib.hid (Below.refl (W.heap.size) W)
     clear hW
     obtain⟨q28_0,q28_1,q28_2,q28_3,q28_4,q28_5,q28_6,q28_7⟩:=(HC _ HB.out).out
     have r28_0:=Nat.lt_of_lt_of_le (show w.heap.size<W.heap.size by have:=HWs.out;omega) HB.out.size
     have r28_1:=Nat.lt_of_lt_of_le (show w.heap.size+1<W.heap.size by have:=HWs.out;omega) HB.out.size
     have r28_2:=Nat.lt_of_lt_of_le (show w.heap.size+1+1<W.heap.size by have:=HWs.out;omega) HB.out.size
     have r28_3:=Nat.lt_of_lt_of_le (show w.heap.size+1+1+1<W.heap.size by have:=HWs.out;omega) HB.out.size
     refine((T1 _).out).mono ?_
     rintro e w29 ⟨rfl,hb29⟩
     have HB:=Lib.hid (below_next (below_next HB.out (Nat.le_trans HBW.out HB.out.size) (by repeat (first|exact Below.refl _ _|refine below_alloc ?_))) (by first|exact(Nat.le_trans HBW.out HB.out.size)|(simp;done)|(have h1:=HBW.out;have h2:=HB.out.size;simp;omega)) hb29)
     clear q28_0 q28_1 q28_2 q28_3 q28_4 q28_5 q28_6 q28_7 r28_0 r28_1 r28_2 r28_3
     obtain⟨q29_0,q29_1,q29_2,q29_3,q29_4,q29_5,q29_6,q29_7⟩:=(HC _ HB.out).out
     clear hb29
     have r29_0:=Nat.lt_of_lt_of_le (show w.heap.size<W.heap.size by have:=HWs.out;omega) HB.out.size
     have r29_1:=Nat.lt_of_lt_of_le (show w.heap.size+1<W.heap.size by have:=HWs.out;omega) HB.out.size
     have r29_2:=Nat.lt_of_lt_of_le (show w.heap.size+1+1<W.heap.size by have:=HWs.out;omega) HB.out.size
     have r29_3:=Nat.lt_of_lt_of_le (show w.heap.size+1+1+1<W.heap.size by have:=HWs.out;omega) HB.out.size
     go_wp2_with fail
     refine((T2 _).out).mono ?_
     rintro e w30 ⟨rfl,hb30⟩
     have HB:=Lib.hid (below_next (below_next HB.out (Nat.le_trans HBW.out HB.out.size) (by repeat (first|exact Below.refl _ _|refine below_alloc ?_))) (by first|exact(Nat.le_trans HBW.out HB.out.size)|(simp;done)|(have h1:=HBW.out;have h2:=HB.out.size;simp;omega)) hb30)
     clear q29_0 q29_1 q29_2 q29_3 q29_4 q29_5 q29_6 q29_7 r29_0 r29_1 r29_2 r29_3
     obtain⟨q30_0,q30_1,q30_2,q30_3,q30_4,q30_5,q30_6,q30_7⟩:=(HC _ HB.out).out
     clear hb30
     have r30_0:=Nat.lt_of_lt_of_le (show w.heap.size<W.heap.size by have:=HWs.out;omega) HB.out.size
     have r30_1:=Nat.lt_of_lt_of_le (show w.heap.size+1<W.heap.size by have:=HWs.out;omega) HB.out.size
     have r30_2:=Nat.lt_of_lt_of_le (show w.heap.size+1+1<W.heap.size by have:=HWs.out;omega) HB.out.size
     have r30_3:=Nat.lt_of_lt_of_le (show w.heap.size+1+1+1<W.heap.size by have:=HWs.out;omega) HB.out.size
     go_wp2_with fail
     refine((O1 _).out).mono ?_
     rintro e w31 ⟨rfl,hb31⟩
     have HB:=Lib.hid (below_next (below_next HB.out (Nat.le_trans HBW.out HB.out.size) (by repeat (first|exact Below.refl _ _|refine below_alloc ?_))) (by first|exact(Nat.le_trans HBW.out HB.out.size)|(simp;done)|(have h1:=HBW.out;have h2:=HB.out.size;simp;omega)) hb31)
     clear q30_0 q30_1 q30_2 q30_3 q30_4 q30_5 q30_6 q30_7 r30_0 r30_1 r30_2 r30_3
     obtain⟨q31_0,q31_1,q31_2,q31_3,q31_4,q31_5,q31_6,q31_7⟩:=(HC _ HB.out).out
     clear hb31
     have r31_0:=Nat.lt_of_lt_of_le (show w.heap.size<W.heap.size by have:=HWs.out;omega) HB.out.size
     have r31_1:=Nat.lt_of_lt_of_le (show w.heap.size+1<W.heap.size by have:=HWs.out;omega) HB.out.size
     have r31_2:=Nat.lt_of_lt_of_le (show w.heap.size+1+1<W.heap.size by have:=HWs.out;omega) HB.out.size
     have r31_3:=Nat.lt_of_lt_of_le (show w.heap.size+1+1+1<W.heap.size by have:=HWs.out;omega) HB.out.size
     go_wp2_with fail
     refine((O2 _).out).mono ?_
     rintro e w32 ⟨rfl,hb32⟩
     have HB:=Lib.hid (below_next (below_next HB.out (Nat.le_trans HBW.out HB.out.size) (by repeat (first|exact Below.refl _ _|refine below_alloc ?_))) (by first|exact(Nat.le_trans HBW.out HB.out.size)|(simp;done)|(have h1:=HBW.out;have h2:=HB.out.size;simp;omega)) hb32)
     clear q31_0 q31_1 q31_2 q31_3 q31_4 q31_5 q31_6 q31_7 r31_0 r31_1 r31_2 r31_3
     obtain⟨q32_0,q32_1,q32_2,q32_3,q32_4,q32_5,q32_6,q32_7⟩:=(HC _ HB.out).out
     clear hb32
     have r32_0:=Nat.lt_of_lt_of_le (show w.heap.size<W.heap.size by have:=HWs.out;omega) HB.out.size
     have r32_1:=Nat.lt_of_lt_of_le (show w.heap.size+1<W.heap.size by have:=HWs.out;omega) HB.out.size
     have r32_2:=Nat.lt_of_lt_of_le (show w.heap.size+1+1<W.heap.size by have:=HWs.out;omega) HB.out.size
     have r32_3:=Nat.lt_of_lt_of_le (show w.heap.size+1+1+1<W.heap.size by have:=HWs.out;omega) HB.out.size
     go_wp2_with fail
     refine((O3 _).out).mono ?_
     rintro e w33 ⟨rfl,hb33⟩
     have HB:=Lib.hid (below_next (below_next HB.out (Nat.le_trans HBW.out HB.out.size) (by repeat (first|exact Below.refl _ _|refine below_alloc ?_))) (by first|exact(Nat.le_trans HBW.out HB.out.size)|(simp;done)|(have h1:=HBW.out;have h2:=HB.out.size;simp;omega)) hb33)
     clear q32_0 q32_1 q32_2 q32_3 q32_4 q32_5 q32_6 q32_7 r32_0 r32_1 r32_2 r32_3
     obtain⟨q33_0,q33_1,q33_2,q33_3,q33_4,q33_5,q33_6,q33_7⟩:=(HC _ HB.out).out
     clear hb33
     have r33_0:=Nat.lt_of_lt_of_le (show w.heap.size<W.heap.size by have:=HWs.out;omega) HB.out.size
     have r33_1:=Nat.lt_of_lt_of_le (show w.heap.size+1<W.heap.size by have:=HWs.out;omega) HB.out.size
     have r33_2:=Nat.lt_of_lt_of_le (show w.heap.size+1+1<W.heap.size by have:=HWs.out;omega) HB.out.size
     have r33_3:=Nat.lt_of_lt_of_le (show w.heap.size+1+1+1<W.heap.size by have:=HWs.out;omega) HB.out.size
     go_wp2_with fail
     go_ret
     exact⟨rfl,(HW.out.trans (HB.out.mono (by have:=HWs.out;omega)))⟩
   ·go_enter Try.func25,Try.ntmps25
    go_wp2_with fail
    first|refine wp_name (fun W hW=> ?_)|refine calls_name (fun W hW=> ?_)
    have HW:Hid (Below w.heap.size w W):=Lib.hid (by rw[←hW];repeat (first|exact Below.refl _ _|refine below_alloc ?_))
    have HWs:Hid (W.heap.size=w.heap.size+1+1+1+1):=Lib.hid (by rw[←hW];simp)
    have HBW:Hid (W.heap.size≤W.heap.size):=Lib.hid (by have:=HWs.out;omega)
    have HC:=fun(W1:World) (hb:Below (W.heap.size) W W1)=>Lib.hid (show W1.cell? ⟨w.heap.size,0,none⟩=some (.int .i64 a.x)∧W1.cell? ⟨w.heap.size,1,none⟩=some (.int .i64 a.y)∧W1.cell? ⟨w.heap.size+1,0,none⟩=some (.int .i64 b.x)∧W1.cell? ⟨w.heap.size+1,1,none⟩=some (.int .i64 b.y)∧W1.cell? ⟨w.heap.size+1+1,0,none⟩=some (.int .i64 c.x)∧W1.cell? ⟨w.heap.size+1+1,1,none⟩=some (.int .i64 c.y)∧W1.cell? ⟨w.heap.size+1+1+1,0,none⟩=some (.int .i64 d.x)∧W1.cell? ⟨w.heap.size+1+1+1,1,none⟩=some (.int .i64 d.y) from by exact⟨(hb.cell (p:=⟨w.heap.size,0,none⟩) (by show w.heap.size<W.heap.size;have:=HWs.out;omega)).trans (by rw[←hW];clear hW;go_simp),(hb.cell (p:=⟨w.heap.size,1,none⟩) (by show w.heap.size<W.heap.size;have:=HWs.out;omega)).trans (by rw[←hW];clear hW;go_simp),(hb.cell (p:=⟨w.heap.size+1,0,none⟩) (by show w.heap.size+1<W.heap.size;have:=HWs.out;omega)).trans (by rw[←hW];clear hW;go_simp),(hb.cell (p:=⟨w.heap.size+1,1,none⟩) (by show w.heap.size+1<W.heap.size;have:=HWs.out;omega)).trans (by rw[←hW];clear hW;go_simp),(hb.cell (p:=⟨w.heap.size+1+1,0,none⟩) (by show w.heap.size+1+1<W.heap.size;have:=HWs.out;omega)).trans (by rw[←hW];clear hW;go_simp),(hb.cell (p:=⟨w.heap.size+1+1,1,none⟩) (by show w.heap.size+1+1<W.heap.size;have:=HWs.out;omega)).trans (by rw[←hW];clear hW;go_simp),(hb.cell (p:=⟨w.heap.size+1+1+1,0,none⟩) (by show w.heap.size+1+1+1<W.heap.size;have:=HWs.out;omega)).trans (by rw[←hW];clear hW;go_simp),(hb.cell (p:=⟨w.heap.size+1+1+1,1,none⟩) (by show w.heap.size+1+1+1<W.heap.size;have:=HWs.out;omega)).trans (by rw[←hW];clear hW;go_simp)⟩)
    have HB:=Lib.hid (Below.refl (W.heap.size) W)
    clear hW
    obtain⟨q35_0,q35_1,q35_2,q35_3,q35_4,q35_5,q35_6,q35_7⟩:=(HC _ HB.out).out
    have r35_0:=Nat.lt_of_lt_of_le (show w.heap.size<W.heap.size by have:=HWs.out;omega) HB.out.size
    have r35_1:=Nat.lt_of_lt_of_le (show w.heap.size+1<W.heap.size by have:=HWs.out;omega) HB.out.size
    have r35_2:=Nat.lt_of_lt_of_le (show w.heap.size+1+1<W.heap.size by have:=HWs.out;omega) HB.out.size
    have r35_3:=Nat.lt_of_lt_of_le (show w.heap.size+1+1+1<W.heap.size by have:=HWs.out;omega) HB.out.size
    refine((T1 _).out).mono ?_
    rintro e w36 ⟨rfl,hb36⟩
    have HB:=Lib.hid (below_next (below_next HB.out (Nat.le_trans HBW.out HB.out.size) (by repeat (first|exact Below.refl _ _|refine below_alloc ?_))) (by first|exact(Nat.le_trans HBW.out HB.out.size)|(simp;done)|(have h1:=HBW.out;have h2:=HB.out.size;simp;omega)) hb36)
    clear q35_0 q35_1 q35_2 q35_3 q35_4 q35_5 q35_6 q35_7 r35_0 r35_1 r35_2 r35_3
    obtain⟨q36_0,q36_1,q36_2,q36_3,q36_4,q36_5,q36_6,q36_7⟩:=(HC _ HB.out).out
    clear hb36
    have r36_0:=Nat.lt_of_lt_of_le (show w.heap.size<W.heap.size by have:=HWs.out;omega) HB.out.size
    have r36_1:=Nat.lt_of_lt_of_le (show w.heap.size+1<W.heap.size by have:=HWs.out;omega) HB.out.size
    have r36_2:=Nat.lt_of_lt_of_le (show w.heap.size+1+1<W.heap.size by have:=HWs.out;omega) HB.out.size
    have r36_3:=Nat.lt_of_lt_of_le (show w.heap.size+1+1+1<W.heap.size by have:=HWs.out;omega) HB.out.size
    go_wp2_with fail
    refine((T2 _).out).mono ?_
    rintro e w37 ⟨rfl,hb37⟩
    have HB:=Lib.hid (below_next (below_next HB.out (Nat.le_trans HBW.out HB.out.size) (by repeat (first|exact Below.refl _ _|refine below_alloc ?_))) (by first|exact(Nat.le_trans HBW.out HB.out.size)|(simp;done)|(have h1:=HBW.out;have h2:=HB.out.size;simp;omega)) hb37)
    clear q36_0 q36_1 q36_2 q36_3 q36_4 q36_5 q36_6 q36_7 r36_0 r36_1 r36_2 r36_3
    obtain⟨q37_0,q37_1,q37_2,q37_3,q37_4,q37_5,q37_6,q37_7⟩:=(HC _ HB.out).out
    clear hb37
    have r37_0:=Nat.lt_of_lt_of_le (show w.heap.size<W.heap.size by have:=HWs.out;omega) HB.out.size
    have r37_1:=Nat.lt_of_lt_of_le (show w.heap.size+1<W.heap.size by have:=HWs.out;omega) HB.out.size
    have r37_2:=Nat.lt_of_lt_of_le (show w.heap.size+1+1<W.heap.size by have:=HWs.out;omega) HB.out.size
    have r37_3:=Nat.lt_of_lt_of_le (show w.heap.size+1+1+1<W.heap.size by have:=HWs.out;omega) HB.out.size
    go_wp2_with fail
    refine((O1 _).out).mono ?_
    rintro e w38 ⟨rfl,hb38⟩
    have HB:=Lib.hid (below_next (below_next HB.out (Nat.le_trans HBW.out HB.out.size) (by repeat (first|exact Below.refl _ _|refine below_alloc ?_))) (by first|exact(Nat.le_trans HBW.out HB.out.size)|(simp;done)|(have h1:=HBW.out;have h2:=HB.out.size;simp;omega)) hb38)
    clear q37_0 q37_1 q37_2 q37_3 q37_4 q37_5 q37_6 q37_7 r37_0 r37_1 r37_2 r37_3
    obtain⟨q38_0,q38_1,q38_2,q38_3,q38_4,q38_5,q38_6,q38_7⟩:=(HC _ HB.out).out
    clear hb38
    have r38_0:=Nat.lt_of_lt_of_le (show w.heap.size<W.heap.size by have:=HWs.out;omega) HB.out.size
    have r38_1:=Nat.lt_of_lt_of_le (show w.heap.size+1<W.heap.size by have:=HWs.out;omega) HB.out.size
    have r38_2:=Nat.lt_of_lt_of_le (show w.heap.size+1+1<W.heap.size by have:=HWs.out;omega) HB.out.size
    have r38_3:=Nat.lt_of_lt_of_le (show w.heap.size+1+1+1<W.heap.size by have:=HWs.out;omega) HB.out.size
    go_wp2_with fail
    refine((O2 _).out).mono ?_
    rintro e w39 ⟨rfl,hb39⟩
    have HB:=Lib.hid (below_next (below_next HB.out (Nat.le_trans HBW.out HB.out.size) (by repeat (first|exact Below.refl _ _|refine below_alloc ?_))) (by first|exact(Nat.le_trans HBW.out HB.out.size)|(simp;done)|(have h1:=HBW.out;have h2:=HB.out.size;simp;omega)) hb39)
    clear q38_0 q38_1 q38_2 q38_3 q38_4 q38_5 q38_6 q38_7 r38_0 r38_1 r38_2 r38_3
    obtain⟨q39_0,q39_1,q39_2,q39_3,q39_4,q39_5,q39_6,q39_7⟩:=(HC _ HB.out).out
    clear hb39
    have r39_0:=Nat.lt_of_lt_of_le (show w.heap.size<W.heap.size by have:=HWs.out;omega) HB.out.size
    have r39_1:=Nat.lt_of_lt_of_le (show w.heap.size+1<W.heap.size by have:=HWs.out;omega) HB.out.size
    have r39_2:=Nat.lt_of_lt_of_le (show w.heap.size+1+1<W.heap.size by have:=HWs.out;omega) HB.out.size
    have r39_3:=Nat.lt_of_lt_of_le (show w.heap.size+1+1+1<W.heap.size by have:=HWs.out;omega) HB.out.size
    go_wp2_with fail
    go_ret
    exact⟨rfl,(HW.out.trans (HB.out.mono (by have:=HWs.out;omega)))⟩
  ·go_enter Try.func25,Try.ntmps25
   go_wp2_with fail
   first|refine wp_name (fun W hW=> ?_)|refine calls_name (fun W hW=> ?_)
   have HW:Hid (Below w.heap.size w W):=Lib.hid (by rw[←hW];repeat (first|exact Below.refl _ _|refine below_alloc ?_))
   have HWs:Hid (W.heap.size=w.heap.size+1+1+1+1):=Lib.hid (by rw[←hW];simp)
   have HBW:Hid (W.heap.size≤W.heap.size):=Lib.hid (by have:=HWs.out;omega)
   have HC:=fun(W1:World) (hb:Below (W.heap.size) W W1)=>Lib.hid (show W1.cell? ⟨w.heap.size,0,none⟩=some (.int .i64 a.x)∧W1.cell? ⟨w.heap.size,1,none⟩=some (.int .i64 a.y)∧W1.cell? ⟨w.heap.size+1,0,none⟩=some (.int .i64 b.x)∧W1.cell? ⟨w.heap.size+1,1,none⟩=some (.int .i64 b.y)∧W1.cell? ⟨w.heap.size+1+1,0,none⟩=some (.int .i64 c.x)∧W1.cell? ⟨w.heap.size+1+1,1,none⟩=some (.int .i64 c.y)∧W1.cell? ⟨w.heap.size+1+1+1,0,none⟩=some (.int .i64 d.x)∧W1.cell? ⟨w.heap.size+1+1+1,1,none⟩=some (.int .i64 d.y) from by exact⟨(hb.cell (p:=⟨w.heap.size,0,none⟩) (by show w.heap.size<W.heap.size;have:=HWs.out;omega)).trans (by rw[←hW];clear hW;go_simp),(hb.cell (p:=⟨w.heap.size,1,none⟩) (by show w.heap.size<W.heap.size;have:=HWs.out;omega)).trans (by rw[←hW];clear hW;go_simp),(hb.cell (p:=⟨w.heap.size+1,0,none⟩) (by show w.heap.size+1<W.heap.size;have:=HWs.out;omega)).trans (by rw[←hW];clear hW;go_simp),(hb.cell (p:=⟨w.heap.size+1,1,none⟩) (by show w.heap.size+1<W.heap.size;have:=HWs.out;omega)).trans (by rw[←hW];clear hW;go_simp),(hb.cell (p:=⟨w.heap.size+1+1,0,none⟩) (by show w.heap.size+1+1<W.heap.size;have:=HWs.out;omega)).trans (by rw[←hW];clear hW;go_simp),(hb.cell (p:=⟨w.heap.size+1+1,1,none⟩) (by show w.heap.size+1+1<W.heap.size;have:=HWs.out;omega)).trans (by rw[←hW];clear hW;go_simp),(hb.cell (p:=⟨w.heap.size+1+1+1,0,none⟩) (by show w.heap.size+1+1+1<W.heap.size;have:=HWs.out;omega)).trans (by rw[←hW];clear hW;go_simp),(hb.cell (p:=⟨w.heap.size+1+1+1,1,none⟩) (by show w.heap.size+1+1+1<W.heap.size;have:=HWs.out;omega)).trans (by rw[←hW];clear hW;go_simp)⟩)
   have HB:=Lib.hid (Below.refl (W.heap.size) W)
   clear hW
   obtain⟨q41_0,q41_1,q41_2,q41_3,q41_4,q41_5,q41_6,q41_7⟩:=(HC _ HB.out).out
   have r41_0:=Nat.lt_of_lt_of_le (show w.heap.size<W.heap.size by have:=HWs.out;omega) HB.out.size
   have r41_1:=Nat.lt_of_lt_of_le (show w.heap.size+1<W.heap.size by have:=HWs.out;omega) HB.out.size
   have r41_2:=Nat.lt_of_lt_of_le (show w.heap.size+1+1<W.heap.size by have:=HWs.out;omega) HB.out.size
   have r41_3:=Nat.lt_of_lt_of_le (show w.heap.size+1+1+1<W.heap.size by have:=HWs.out;omega) HB.out.size
   refine((T1 _).out).mono ?_
   rintro e w42 ⟨rfl,hb42⟩
   have HB:=Lib.hid (below_next (below_next HB.out (Nat.le_trans HBW.out HB.out.size) (by repeat (first|exact Below.refl _ _|refine below_alloc ?_))) (by first|exact(Nat.le_trans HBW.out HB.out.size)|(simp;done)|(have h1:=HBW.out;have h2:=HB.out.size;simp;omega)) hb42)
   clear q41_0 q41_1 q41_2 q41_3 q41_4 q41_5 q41_6 q41_7 r41_0 r41_1 r41_2 r41_3
   obtain⟨q42_0,q42_1,q42_2,q42_3,q42_4,q42_5,q42_6,q42_7⟩:=(HC _ HB.out).out
   clear hb42
   have r42_0:=Nat.lt_of_lt_of_le (show w.heap.size<W.heap.size by have:=HWs.out;omega) HB.out.size
   have r42_1:=Nat.lt_of_lt_of_le (show w.heap.size+1<W.heap.size by have:=HWs.out;omega) HB.out.size
   have r42_2:=Nat.lt_of_lt_of_le (show w.heap.size+1+1<W.heap.size by have:=HWs.out;omega) HB.out.size
   have r42_3:=Nat.lt_of_lt_of_le (show w.heap.size+1+1+1<W.heap.size by have:=HWs.out;omega) HB.out.size
   go_wp2_with fail
   refine((T2 _).out).mono ?_
   rintro e w43 ⟨rfl,hb43⟩
   have HB:=Lib.hid (below_next (below_next HB.out (Nat.le_trans HBW.out HB.out.size) (by repeat (first|exact Below.refl _ _|refine below_alloc ?_))) (by first|exact(Nat.le_trans HBW.out HB.out.size)|(simp;done)|(have h1:=HBW.out;have h2:=HB.out.size;simp;omega)) hb43)
   clear q42_0 q42_1 q42_2 q42_3 q42_4 q42_5 q42_6 q42_7 r42_0 r42_1 r42_2 r42_3
   obtain⟨q43_0,q43_1,q43_2,q43_3,q43_4,q43_5,q43_6,q43_7⟩:=(HC _ HB.out).out
   clear hb43
   have r43_0:=Nat.lt_of_lt_of_le (show w.heap.size<W.heap.size by have:=HWs.out;omega) HB.out.size
   have r43_1:=Nat.lt_of_lt_of_le (show w.heap.size+1<W.heap.size by have:=HWs.out;omega) HB.out.size
   have r43_2:=Nat.lt_of_lt_of_le (show w.heap.size+1+1<W.heap.size by have:=HWs.out;omega) HB.out.size
   have r43_3:=Nat.lt_of_lt_of_le (show w.heap.size+1+1+1<W.heap.size by have:=HWs.out;omega) HB.out.size
   go_wp2_with fail
   refine((O1 _).out).mono ?_
   rintro e w44 ⟨rfl,hb44⟩
   have HB:=Lib.hid (below_next (below_next HB.out (Nat.le_trans HBW.out HB.out.size) (by repeat (first|exact Below.refl _ _|refine below_alloc ?_))) (by first|exact(Nat.le_trans HBW.out HB.out.size)|(simp;done)|(have h1:=HBW.out;have h2:=HB.out.size;simp;omega)) hb44)
   clear q43_0 q43_1 q43_2 q43_3 q43_4 q43_5 q43_6 q43_7 r43_0 r43_1 r43_2 r43_3
   obtain⟨q44_0,q44_1,q44_2,q44_3,q44_4,q44_5,q44_6,q44_7⟩:=(HC _ HB.out).out
   clear hb44
   have r44_0:=Nat.lt_of_lt_of_le (show w.heap.size<W.heap.size by have:=HWs.out;omega) HB.out.size
   have r44_1:=Nat.lt_of_lt_of_le (show w.heap.size+1<W.heap.size by have:=HWs.out;omega) HB.out.size
   have r44_2:=Nat.lt_of_lt_of_le (show w.heap.size+1+1<W.heap.size by have:=HWs.out;omega) HB.out.size
   have r44_3:=Nat.lt_of_lt_of_le (show w.heap.size+1+1+1<W.heap.size by have:=HWs.out;omega) HB.out.size
   go_wp2_with fail
   go_ret
   exact⟨rfl,(HW.out.trans (HB.out.mono (by have:=HWs.out;omega)))⟩
 ·rw[if_neg h12]
  clear O1 O2 O3 O4 O5 O6
  rcases ends_cases a b c d with ⟨e1,HE⟩|⟨e1,e2,HE⟩|⟨e1,e2,e3,HE⟩|⟨e1,e2,e3,e4,HE⟩|⟨e1,e2,e3,e4,HE⟩
  ·have r1:=eq_pt_t e1
   simp only[HE.out,if_true]
   by_cases h1:t1=0
   ·have hz:(t2==0)=false:=by simpa using fun h=>h12 ⟨h1,h⟩
    subst h1
    clear h12 e1
    go_enter Try.func25,Try.ntmps25
    go_wp2_with fail
    first|refine wp_name (fun W hW=> ?_)|refine calls_name (fun W hW=> ?_)
    have HW:Hid (Below w.heap.size w W):=Lib.hid (by rw[←hW];repeat (first|exact Below.refl _ _|refine below_alloc ?_))
    have HWs:Hid (W.heap.size=w.heap.size+1+1+1+1):=Lib.hid (by rw[←hW];simp)
    have HBW:Hid (W.heap.size≤W.heap.size):=Lib.hid (by have:=HWs.out;omega)
    have HC:=fun(W1:World) (hb:Below (W.heap.size) W W1)=>Lib.hid (show W1.cell? ⟨w.heap.size,0,none⟩=some (.int .i64 a.x)∧W1.cell? ⟨w.heap.size,1,none⟩=some (.int .i64 a.y)∧W1.cell? ⟨w.heap.size+1,0,none⟩=some (.int .i64 b.x)∧W1.cell? ⟨w.heap.size+1,1,none⟩=some (.int .i64 b.y)∧W1.cell? ⟨w.heap.size+1+1,0,none⟩=some (.int .i64 c.x)∧W1.cell? ⟨w.heap.size+1+1,1,none⟩=some (.int .i64 c.y)∧W1.cell? ⟨w.heap.size+1+1+1,0,none⟩=some (.int .i64 d.x)∧W1.cell? ⟨w.heap.size+1+1+1,1,none⟩=some (.int .i64 d.y) from by exact⟨(hb.cell (p:=⟨w.heap.size,0,none⟩) (by show w.heap.size<W.heap.size;have:=HWs.out;omega)).trans (by rw[←hW];clear hW;go_simp),(hb.cell (p:=⟨w.heap.size,1,none⟩) (by show w.heap.size<W.heap.size;have:=HWs.out;omega)).trans (by rw[←hW];clear hW;go_simp),(hb.cell (p:=⟨w.heap.size+1,0,none⟩) (by show w.heap.size+1<W.heap.size;have:=HWs.out;omega)).trans (by rw[←hW];clear hW;go_simp),(hb.cell (p:=⟨w.heap.size+1,1,none⟩) (by show w.heap.size+1<W.heap.size;have:=HWs.out;omega)).trans (by rw[←hW];clear hW;go_simp),(hb.cell (p:=⟨w.heap.size+1+1,0,none⟩) (by show w.heap.size+1+1<W.heap.size;have:=HWs.out;omega)).trans (by rw[←hW];clear hW;go_simp),(hb.cell (p:=⟨w.heap.size+1+1,1,none⟩) (by show w.heap.size+1+1<W.heap.size;have:=HWs.out;omega)).trans (by rw[←hW];clear hW;go_simp),(hb.cell (p:=⟨w.heap.size+1+1+1,0,none⟩) (by show w.heap.size+1+1+1<W.heap.size;have:=HWs.out;omega)).trans (by rw[←hW];clear hW;go_simp),(hb.cell (p:=⟨w.heap.size+1+1+1,1,none⟩) (by show w.heap.size+1+1+1<W.heap.size;have:=HWs.out;omega)).trans (by rw[←hW];clear hW;go_simp)⟩)
    have HB:=Lib.hid (Below.refl (W.heap.size) W)
    clear hW
    obtain⟨q46_0,q46_1,q46_2,q46_3,q46_4,q46_5,q46_6,q46_7⟩:=(HC _ HB.out).out
    have r46_0:=Nat.lt_of_lt_of_le (show w.heap.size<W.heap.size by have:=HWs.out;omega) HB.out.size
    have r46_1:=Nat.lt_of_lt_of_le (show w.heap.size+1<W.heap.size by have:=HWs.out;omega) HB.out.size
    have r46_2:=Nat.lt_of_lt_of_le (show w.heap.size+1+1<W.heap.size by have:=HWs.out;omega) HB.out.size
    have r46_3:=Nat.lt_of_lt_of_le (show w.heap.size+1+1+1<W.heap.size by have:=HWs.out;omega) HB.out.size
    refine((T1 _).out).mono ?_
    rintro e w47 ⟨rfl,hb47⟩
    have HB:=Lib.hid (below_next (below_next HB.out (Nat.le_trans HBW.out HB.out.size) (by repeat (first|exact Below.refl _ _|refine below_alloc ?_))) (by first|exact(Nat.le_trans HBW.out HB.out.size)|(simp;done)|(have h1:=HBW.out;have h2:=HB.out.size;simp;omega)) hb47)
    clear q46_0 q46_1 q46_2 q46_3 q46_4 q46_5 q46_6 q46_7 r46_0 r46_1 r46_2 r46_3
    obtain⟨q47_0,q47_1,q47_2,q47_3,q47_4,q47_5,q47_6,q47_7⟩:=(HC _ HB.out).out
    clear hb47
    have r47_0:=Nat.lt_of_lt_of_le (show w.heap.size<W.heap.size by have:=HWs.out;omega) HB.out.size
    have r47_1:=Nat.lt_of_lt_of_le (show w.heap.size+1<W.heap.size by have:=HWs.out;omega) HB.out.size
    have r47_2:=Nat.lt_of_lt_of_le (show w.heap.size+1+1<W.heap.size by have:=HWs.out;omega) HB.out.size
    have r47_3:=Nat.lt_of_lt_of_le (show w.heap.size+1+1+1<W.heap.size by have:=HWs.out;omega) HB.out.size
    go_wp2_with fail
    refine((T2 _).out).mono ?_
    rintro e w48 ⟨rfl,hb48⟩
    have HB:=Lib.hid (below_next (below_next HB.out (Nat.le_trans HBW.out HB.out.size) (by repeat (first|exact Below.refl _ _|refine below_alloc ?_))) (by first|exact(Nat.le_trans HBW.out HB.out.size)|(simp;done)|(have h1:=HBW.out;have h2:=HB.out.size;simp;omega)) hb48)
    clear q47_0 q47_1 q47_2 q47_3 q47_4 q47_5 q47_6 q47_7 r47_0 r47_1 r47_2 r47_3
    obtain⟨q48_0,q48_1,q48_2,q48_3,q48_4,q48_5,q48_6,q48_7⟩:=(HC _ HB.out).out
    clear hb48
    have r48_0:=Nat.lt_of_lt_of_le (show w.heap.size<W.heap.size by have:=HWs.out;omega) HB.out.size
    have r48_1:=Nat.lt_of_lt_of_le (show w.heap.size+1<W.heap.size by have:=HWs.out;omega) HB.out.size
    have r48_2:=Nat.lt_of_lt_of_le (show w.heap.size+1+1<W.heap.size by have:=HWs.out;omega) HB.out.size
    have r48_3:=Nat.lt_of_lt_of_le (show w.heap.size+1+1+1<W.heap.size by have:=HWs.out;omega) HB.out.size
    go_wp2_with fail
    go_ret
    exact⟨rfl,(HW.out.trans (HB.out.mono (by have:=HWs.out;omega)))⟩
   ·have hz:(t1==0)=false:=by simpa using h1
    clear h12 e1
    go_enter Try.func25,Try.ntmps25
    go_wp2_with fail
    first|refine wp_name (fun W hW=> ?_)|refine calls_name (fun W hW=> ?_)
    have HW:Hid (Below w.heap.size w W):=Lib.hid (by rw[←hW];repeat (first|exact Below.refl _ _|refine below_alloc ?_))
    have HWs:Hid (W.heap.size=w.heap.size+1+1+1+1):=Lib.hid (by rw[←hW];simp)
    have HBW:Hid (W.heap.size≤W.heap.size):=Lib.hid (by have:=HWs.out;omega)
    have HC:=fun(W1:World) (hb:Below (W.heap.size) W W1)=>Lib.hid (show W1.cell? ⟨w.heap.size,0,none⟩=some (.int .i64 a.x)∧W1.cell? ⟨w.heap.size,1,none⟩=some (.int .i64 a.y)∧W1.cell? ⟨w.heap.size+1,0,none⟩=some (.int .i64 b.x)∧W1.cell? ⟨w.heap.size+1,1,none⟩=some (.int .i64 b.y)∧W1.cell? ⟨w.heap.size+1+1,0,none⟩=some (.int .i64 c.x)∧W1.cell? ⟨w.heap.size+1+1,1,none⟩=some (.int .i64 c.y)∧W1.cell? ⟨w.heap.size+1+1+1,0,none⟩=some (.int .i64 d.x)∧W1.cell? ⟨w.heap.size+1+1+1,1,none⟩=some (.int .i64 d.y) from by exact⟨(hb.cell (p:=⟨w.heap.size,0,none⟩) (by show w.heap.size<W.heap.size;have:=HWs.out;omega)).trans (by rw[←hW];clear hW;go_simp),(hb.cell (p:=⟨w.heap.size,1,none⟩) (by show w.heap.size<W.heap.size;have:=HWs.out;omega)).trans (by rw[←hW];clear hW;go_simp),(hb.cell (p:=⟨w.heap.size+1,0,none⟩) (by show w.heap.size+1<W.heap.size;have:=HWs.out;omega)).trans (by rw[←hW];clear hW;go_simp),(hb.cell (p:=⟨w.heap.size+1,1,none⟩) (by show w.heap.size+1<W.heap.size;have:=HWs.out;omega)).trans (by rw[←hW];clear hW;go_simp),(hb.cell (p:=⟨w.heap.size+1+1,0,none⟩) (by show w.heap.size+1+1<W.heap.size;have:=HWs.out;omega)).trans (by rw[←hW];clear hW;go_simp),(hb.cell (p:=⟨w.heap.size+1+1,1,none⟩) (by show w.heap.size+1+1<W.heap.size;have:=HWs.out;omega)).trans (by rw[←hW];clear hW;go_simp),(hb.cell (p:=⟨w.heap.size+1+1+1,0,none⟩) (by show w.heap.size+1+1+1<W.heap.size;have:=HWs.out;omega)).trans (by rw[←hW];clear hW;go_simp),(hb.cell (p:=⟨w.heap.size+1+1+1,1,none⟩) (by show w.heap.size+1+1+1<W.heap.size;have:=HWs.out;omega)).trans (by rw[←hW];clear hW;go_simp)⟩)
    have HB:=Lib.hid (Below.refl (W.heap.size) W)
    clear hW
    obtain⟨q50_0,q50_1,q50_2,q50_3,q50_4,q50_5,q50_6,q50_7⟩:=(HC _ HB.out).out
    have r50_0:=Nat.lt_of_lt_of_le (show w.heap.size<W.heap.size by have:=HWs.out;omega) HB.out.size
    have r50_1:=Nat.lt_of_lt_of_le (show w.heap.size+1<W.heap.size by have:=HWs.out;omega) HB.out.size
    have r50_2:=Nat.lt_of_lt_of_le (show w.heap.size+1+1<W.heap.size by have:=HWs.out;omega) HB.out.size
    have r50_3:=Nat.lt_of_lt_of_le (show w.heap.size+1+1+1<W.heap.size by have:=HWs.out;omega) HB.out.size
    refine((T1 _).out).mono ?_
    rintro e w51 ⟨rfl,hb51⟩
    have HB:=Lib.hid (below_next (below_next HB.out (Nat.le_trans HBW.out HB.out.size) (by repeat (first|exact Below.refl _ _|refine below_alloc ?_))) (by first|exact(Nat.le_trans HBW.out HB.out.size)|(simp;done)|(have h1:=HBW.out;have h2:=HB.out.size;simp;omega)) hb51)
    clear q50_0 q50_1 q50_2 q50_3 q50_4 q50_5 q50_6 q50_7 r50_0 r50_1 r50_2 r50_3
    obtain⟨q51_0,q51_1,q51_2,q51_3,q51_4,q51_5,q51_6,q51_7⟩:=(HC _ HB.out).out
    clear hb51
    have r51_0:=Nat.lt_of_lt_of_le (show w.heap.size<W.heap.size by have:=HWs.out;omega) HB.out.size
    have r51_1:=Nat.lt_of_lt_of_le (show w.heap.size+1<W.heap.size by have:=HWs.out;omega) HB.out.size
    have r51_2:=Nat.lt_of_lt_of_le (show w.heap.size+1+1<W.heap.size by have:=HWs.out;omega) HB.out.size
    have r51_3:=Nat.lt_of_lt_of_le (show w.heap.size+1+1+1<W.heap.size by have:=HWs.out;omega) HB.out.size
    go_wp2_with fail
    go_ret
    exact⟨rfl,(HW.out.trans (HB.out.mono (by have:=HWs.out;omega)))⟩
  ·have r1:=eq_pt_f e1
   have r2:=eq_pt_t e2
   simp only[HE.out,if_true]
   by_cases h1:t1=0
   ·have hz:(t2==0)=false:=by simpa using fun h=>h12 ⟨h1,h⟩
    subst h1
    clear h12 e1 e2
    go_enter Try.func25,Try.ntmps25
    go_wp2_with fail
    first|refine wp_name (fun W hW=> ?_)|refine calls_name (fun W hW=> ?_)
    have HW:Hid (Below w.heap.size w W):=Lib.hid (by rw[←hW];repeat (first|exact Below.refl _ _|refine below_alloc ?_))
    have HWs:Hid (W.heap.size=w.heap.size+1+1+1+1):=Lib.hid (by rw[←hW];simp)
    have HBW:Hid (W.heap.size≤W.heap.size):=Lib.hid (by have:=HWs.out;omega)
    have HC:=fun(W1:World) (hb:Below (W.heap.size) W W1)=>Lib.hid (show W1.cell? ⟨w.heap.size,0,none⟩=some (.int .i64 a.x)∧W1.cell? ⟨w.heap.size,1,none⟩=some (.int .i64 a.y)∧W1.cell? ⟨w.heap.size+1,0,none⟩=some (.int .i64 b.x)∧W1.cell? ⟨w.heap.size+1,1,none⟩=some (.int .i64 b.y)∧W1.cell? ⟨w.heap.size+1+1,0,none⟩=some (.int .i64 c.x)∧W1.cell? ⟨w.heap.size+1+1,1,none⟩=some (.int .i64 c.y)∧W1.cell? ⟨w.heap.size+1+1+1,0,none⟩=some (.int .i64 d.x)∧W1.cell? ⟨w.heap.size+1+1+1,1,none⟩=some (.int .i64 d.y) from by exact⟨(hb.cell (p:=⟨w.heap.size,0,none⟩) (by show w.heap.size<W.heap.size;have:=HWs.out;omega)).trans (by rw[←hW];clear hW;go_simp),(hb.cell (p:=⟨w.heap.size,1,none⟩) (by show w.heap.size<W.heap.size;have:=HWs.out;omega)).trans (by rw[←hW];clear hW;go_simp),(hb.cell (p:=⟨w.heap.size+1,0,none⟩) (by show w.heap.size+1<W.heap.size;have:=HWs.out;omega)).trans (by rw[←hW];clear hW;go_simp),(hb.cell (p:=⟨w.heap.size+1,1,none⟩) (by show w.heap.size+1<W.heap.size;have:=HWs.out;omega)).trans (by rw[←hW];clear hW;go_simp),(hb.cell (p:=⟨w.heap.size+1+1,0,none⟩) (by show w.heap.size+1+1<W.heap.size;have:=HWs.out;omega)).trans (by rw[←hW];clear hW;go_simp),(hb.cell (p:=⟨w.heap.size+1+1,1,none⟩) (by show w.heap.size+1+1<W.heap.size;have:=HWs.out;omega)).trans (by rw[←hW];clear hW;go_simp),(hb.cell (p:=⟨w.heap.size+1+1+1,0,none⟩) (by show w.heap.size+1+1+1<W.heap.size;have:=HWs.out;omega)).trans (by rw[←hW];clear hW;go_simp),(hb.cell (p:=⟨w.heap.size+1+1+1,1,none⟩) (by show w.heap.size+1+1+1<W.heap.size;have:=HWs.out;omega)).trans (by rw[←hW];clear hW;go_simp)⟩)
    have HB:=Lib.hid (Below.refl (W.heap.size) W)
    clear hW
    obtain⟨q53_0,q53_1,q53_2,q53_3,q53_4,q53_5,q53_6,q53_7⟩:=(HC _ HB.out).out
    have r53_0:=Nat.lt_of_lt_of_le (show w.heap.size<W.heap.size by have:=HWs.out;omega) HB.out.size
    have r53_1:=Nat.lt_of_lt_of_le (show w.heap.size+1<W.heap.size by have:=HWs.out;omega) HB.out.size
    have r53_2:=Nat.lt_of_lt_of_le (show w.heap.size+1+1<W.heap.size by have:=HWs.out;omega) HB.out.size
    have r53_3:=Nat.lt_of_lt_of_le (show w.heap.size+1+1+1<W.heap.size by have:=HWs.out;omega) HB.out.size
    refine((T1 _).out).mono ?_
    rintro e w54 ⟨rfl,hb54⟩
    have HB:=Lib.hid (below_next (below_next HB.out (Nat.le_trans HBW.out HB.out.size) (by repeat (first|exact Below.refl _ _|refine below_alloc ?_))) (by first|exact(Nat.le_trans HBW.out HB.out.size)|(simp;done)|(have h1:=HBW.out;have h2:=HB.out.size;simp;omega)) hb54)
    clear q53_0 q53_1 q53_2 q53_3 q53_4 q53_5 q53_6 q53_7 r53_0 r53_1 r53_2 r53_3
    obtain⟨q54_0,q54_1,q54_2,q54_3,q54_4,q54_5,q54_6,q54_7⟩:=(HC _ HB.out).out
    clear hb54
    have r54_0:=Nat.lt_of_lt_of_le (show w.heap.size<W.heap.size by have:=HWs.out;omega) HB.out.size
    have r54_1:=Nat.lt_of_lt_of_le (show w.heap.size+1<W.heap.size by have:=HWs.out;omega) HB.out.size
    have r54_2:=Nat.lt_of_lt_of_le (show w.heap.size+1+1<W.heap.size by have:=HWs.out;omega) HB.out.size
    have r54_3:=Nat.lt_of_lt_of_le (show w.heap.size+1+1+1<W.heap.size by have:=HWs.out;omega) HB.out.size
    go_wp2_with fail
    refine((T2 _).out).mono ?_
    rintro e w55 ⟨rfl,hb55⟩
    have HB:=Lib.hid (below_next (below_next HB.out (Nat.le_trans HBW.out HB.out.size) (by repeat (first|exact Below.refl _ _|refine below_alloc ?_))) (by first|exact(Nat.le_trans HBW.out HB.out.size)|(simp;done)|(have h1:=HBW.out;have h2:=HB.out.size;simp;omega)) hb55)
    clear q54_0 q54_1 q54_2 q54_3 q54_4 q54_5 q54_6 q54_7 r54_0 r54_1 r54_2 r54_3
    obtain⟨q55_0,q55_1,q55_2,q55_3,q55_4,q55_5,q55_6,q55_7⟩:=(HC _ HB.out).out
    clear hb55
    have r55_0:=Nat.lt_of_lt_of_le (show w.heap.size<W.heap.size by have:=HWs.out;omega) HB.out.size
    have r55_1:=Nat.lt_of_lt_of_le (show w.heap.size+1<W.heap.size by have:=HWs.out;omega) HB.out.size
    have r55_2:=Nat.lt_of_lt_of_le (show w.heap.size+1+1<W.heap.size by have:=HWs.out;omega) HB.out.size
    have r55_3:=Nat.lt_of_lt_of_le (show w.heap.size+1+1+1<W.heap.size by have:=HWs.out;omega) HB.out.size
    go_wp2_with fail
    go_ret
    exact⟨rfl,(HW.out.trans (HB.out.mono (by have:=HWs.out;omega)))⟩
   ·have hz:(t1==0)=false:=by simpa using h1
    clear h12 e1 e2
    go_enter Try.func25,Try.ntmps25
    go_wp2_with fail
    first|refine wp_name (fun W hW=> ?_)|refine calls_name (fun W hW=> ?_)
    have HW:Hid (Below w.heap.size w W):=Lib.hid (by rw[←hW];repeat (first|exact Below.refl _ _|refine below_alloc ?_))
    have HWs:Hid (W.heap.size=w.heap.size+1+1+1+1):=Lib.hid (by rw[←hW];simp)
    have HBW:Hid (W.heap.size≤W.heap.size):=Lib.hid (by have:=HWs.out;omega)
    have HC:=fun(W1:World) (hb:Below (W.heap.size) W W1)=>Lib.hid (show W1.cell? ⟨w.heap.size,0,none⟩=some (.int .i64 a.x)∧W1.cell? ⟨w.heap.size,1,none⟩=some (.int .i64 a.y)∧W1.cell? ⟨w.heap.size+1,0,none⟩=some (.int .i64 b.x)∧W1.cell? ⟨w.heap.size+1,1,none⟩=some (.int .i64 b.y)∧W1.cell? ⟨w.heap.size+1+1,0,none⟩=some (.int .i64 c.x)∧W1.cell? ⟨w.heap.size+1+1,1,none⟩=some (.int .i64 c.y)∧W1.cell? ⟨w.heap.size+1+1+1,0,none⟩=some (.int .i64 d.x)∧W1.cell? ⟨w.heap.size+1+1+1,1,none⟩=some (.int .i64 d.y) from by exact⟨(hb.cell (p:=⟨w.heap.size,0,none⟩) (by show w.heap.size<W.heap.size;have:=HWs.out;omega)).trans (by rw[←hW];clear hW;go_simp),(hb.cell (p:=⟨w.heap.size,1,none⟩) (by show w.heap.size<W.heap.size;have:=HWs.out;omega)).trans (by rw[←hW];clear hW;go_simp),(hb.cell (p:=⟨w.heap.size+1,0,none⟩) (by show w.heap.size+1<W.heap.size;have:=HWs.out;omega)).trans (by rw[←hW];clear hW;go_simp),(hb.cell (p:=⟨w.heap.size+1,1,none⟩) (by show w.heap.size+1<W.heap.size;have:=HWs.out;omega)).trans (by rw[←hW];clear hW;go_simp),(hb.cell (p:=⟨w.heap.size+1+1,0,none⟩) (by show w.heap.size+1+1<W.heap.size;have:=HWs.out;omega)).trans (by rw[←hW];clear hW;go_simp),(hb.cell (p:=⟨w.heap.size+1+1,1,none⟩) (by show w.heap.size+1+1<W.heap.size;have:=HWs.out;omega)).trans (by rw[←hW];clear hW;go_simp),(hb.cell (p:=⟨w.heap.size+1+1+1,0,none⟩) (by show w.heap.size+1+1+1<W.heap.size;have:=HWs.out;omega)).trans (by rw[←hW];clear hW;go_simp),(hb.cell (p:=⟨w.heap.size+1+1+1,1,none⟩) (by show w.heap.size+1+1+1<W.heap.size;have:=HWs.out;omega)).trans (by rw[←hW];clear hW;go_simp)⟩)
    have HB:=Lib.hid (Below.refl (W.heap.size) W)
    clear hW
    obtain⟨q57_0,q57_1,q57_2,q57_3,q57_4,q57_5,q57_6,q57_7⟩:=(HC _ HB.out).out
    have r57_0:=Nat.lt_of_lt_of_le (show w.heap.size<W.heap.size by have:=HWs.out;omega) HB.out.size
    have r57_1:=Nat.lt_of_lt_of_le (show w.heap.size+1<W.heap.size by have:=HWs.out;omega) HB.out.size
    have r57_2:=Nat.lt_of_lt_of_le (show w.heap.size+1+1<W.heap.size by have:=HWs.out;omega) HB.out.size
    have r57_3:=Nat.lt_of_lt_of_le (show w.heap.size+1+1+1<W.heap.size by have:=HWs.out;omega) HB.out.size
    refine((T1 _).out).mono ?_
    rintro e w58 ⟨rfl,hb58⟩
    have HB:=Lib.hid (below_next (below_next HB.out (Nat.le_trans HBW.out HB.out.size) (by repeat (first|exact Below.refl _ _|refine below_alloc ?_))) (by first|exact(Nat.le_trans HBW.out HB.out.size)|(simp;done)|(have h1:=HBW.out;have h2:=HB.out.size;simp;omega)) hb58)
    clear q57_0 q57_1 q57_2 q57_3 q57_4 q57_5 q57_6 q57_7 r57_0 r57_1 r57_2 r57_3
    obtain⟨q58_0,q58_1,q58_2,q58_3,q58_4,q58_5,q58_6,q58_7⟩:=(HC _ HB.out).out
    clear hb58
    have r58_0:=Nat.lt_of_lt_of_le (show w.heap.size<W.heap.size by have:=HWs.out;omega) HB.out.size
    have r58_1:=Nat.lt_of_lt_of_le (show w.heap.size+1<W.heap.size by have:=HWs.out;omega) HB.out.size
    have r58_2:=Nat.lt_of_lt_of_le (show w.heap.size+1+1<W.heap.size by have:=HWs.out;omega) HB.out.size
    have r58_3:=Nat.lt_of_lt_of_le (show w.heap.size+1+1+1<W.heap.size by have:=HWs.out;omega) HB.out.size
    go_wp2_with fail
    go_ret
    exact⟨rfl,(HW.out.trans (HB.out.mono (by have:=HWs.out;omega)))⟩
  ·have r1:=eq_pt_f e1
   have r2:=eq_pt_f e2
   have r3:=eq_pt_t e3
   simp only[HE.out,if_true]
   by_cases h1:t1=0
   ·have hz:(t2==0)=false:=by simpa using fun h=>h12 ⟨h1,h⟩
    subst h1
    clear h12 e1 e2 e3
    go_enter Try.func25,Try.ntmps25
    go_wp2_with fail
    first|refine wp_name (fun W hW=> ?_)|refine calls_name (fun W hW=> ?_)
    have HW:Hid (Below w.heap.size w W):=Lib.hid (by rw[←hW];repeat (first|exact Below.refl _ _|refine below_alloc ?_))
    have HWs:Hid (W.heap.size=w.heap.size+1+1+1+1):=Lib.hid (by rw[←hW];simp)
    have HBW:Hid (W.heap.size≤W.heap.size):=Lib.hid (by have:=HWs.out;omega)
    have HC:=fun(W1:World) (hb:Below (W.heap.size) W W1)=>Lib.hid (show W1.cell? ⟨w.heap.size,0,none⟩=some (.int .i64 a.x)∧W1.cell? ⟨w.heap.size,1,none⟩=some (.int .i64 a.y)∧W1.cell? ⟨w.heap.size+1,0,none⟩=some (.int .i64 b.x)∧W1.cell? ⟨w.heap.size+1,1,none⟩=some (.int .i64 b.y)∧W1.cell? ⟨w.heap.size+1+1,0,none⟩=some (.int .i64 c.x)∧W1.cell? ⟨w.heap.size+1+1,1,none⟩=some (.int .i64 c.y)∧W1.cell? ⟨w.heap.size+1+1+1,0,none⟩=some (.int .i64 d.x)∧W1.cell? ⟨w.heap.size+1+1+1,1,none⟩=some (.int .i64 d.y) from by exact⟨(hb.cell (p:=⟨w.heap.size,0,none⟩) (by show w.heap.size<W.heap.size;have:=HWs.out;omega)).trans (by rw[←hW];clear hW;go_simp),(hb.cell (p:=⟨w.heap.size,1,none⟩) (by show w.heap.size<W.heap.size;have:=HWs.out;omega)).trans (by rw[←hW];clear hW;go_simp),(hb.cell (p:=⟨w.heap.size+1,0,none⟩) (by show w.heap.size+1<W.heap.size;have:=HWs.out;omega)).trans (by rw[←hW];clear hW;go_simp),(hb.cell (p:=⟨w.heap.size+1,1,none⟩) (by show w.heap.size+1<W.heap.size;have:=HWs.out;omega)).trans (by rw[←hW];clear hW;go_simp),(hb.cell (p:=⟨w.heap.size+1+1,0,none⟩) (by show w.heap.size+1+1<W.heap.size;have:=HWs.out;omega)).trans (by rw[←hW];clear hW;go_simp),(hb.cell (p:=⟨w.heap.size+1+1,1,none⟩) (by show w.heap.size+1+1<W.heap.size;have:=HWs.out;omega)).trans (by rw[←hW];clear hW;go_simp),(hb.cell (p:=⟨w.heap.size+1+1+1,0,none⟩) (by show w.heap.size+1+1+1<W.heap.size;have:=HWs.out;omega)).trans (by rw[←hW];clear hW;go_simp),(hb.cell (p:=⟨w.heap.size+1+1+1,1,none⟩) (by show w.heap.size+1+1+1<W.heap.size;have:=HWs.out;omega)).trans (by rw[←hW];clear hW;go_simp)⟩)
    have HB:=Lib.hid (Below.refl (W.heap.size) W)
    clear hW
    obtain⟨q60_0,q60_1,q60_2,q60_3,q60_4,q60_5,q60_6,q60_7⟩:=(HC _ HB.out).out
    have r60_0:=Nat.lt_of_lt_of_le (show w.heap.size<W.heap.size by have:=HWs.out;omega) HB.out.size
    have r60_1:=Nat.lt_of_lt_of_le (show w.heap.size+1<W.heap.size by have:=HWs.out;omega) HB.out.size
    have r60_2:=Nat.lt_of_lt_of_le (show w.heap.size+1+1<W.heap.size by have:=HWs.out;omega) HB.out.size
    have r60_3:=Nat.lt_of_lt_of_le (show w.heap.size+1+1+1<W.heap.size by have:=HWs.out;omega) HB.out.size
    refine((T1 _).out).mono ?_
    rintro e w61 ⟨rfl,hb61⟩
    have HB:=Lib.hid (below_next (below_next HB.out (Nat.le_trans HBW.out HB.out.size) (by repeat (first|exact Below.refl _ _|refine below_alloc ?_))) (by first|exact(Nat.le_trans HBW.out HB.out.size)|(simp;done)|(have h1:=HBW.out;have h2:=HB.out.size;simp;omega)) hb61)
    clear q60_0 q60_1 q60_2 q60_3 q60_4 q60_5 q60_6 q60_7 r60_0 r60_1 r60_2 r60_3
    obtain⟨q61_0,q61_1,q61_2,q61_3,q61_4,q61_5,q61_6,q61_7⟩:=(HC _ HB.out).out
    clear hb61
    have r61_0:=Nat.lt_of_lt_of_le (show w.heap.size<W.heap.size by have:=HWs.out;omega) HB.out.size
    have r61_1:=Nat.lt_of_lt_of_le (show w.heap.size+1<W.heap.size by have:=HWs.out;omega) HB.out.size
    have r61_2:=Nat.lt_of_lt_of_le (show w.heap.size+1+1<W.heap.size by have:=HWs.out;omega) HB.out.size
    have r61_3:=Nat.lt_of_lt_of_le (show w.heap.size+1+1+1<W.heap.size by have:=HWs.out;omega) HB.out.size
    go_wp2_with fail
    refine((T2 _).out).mono ?_
    rintro e w62 ⟨rfl,hb62⟩
    have HB:=Lib.hid (below_next (below_next HB.out (Nat.le_trans HBW.out HB.out.size) (by repeat (first|exact Below.refl _ _|refine below_alloc ?_))) (by first|exact(Nat.le_trans HBW.out HB.out.size)|(simp;done)|(have h1:=HBW.out;have h2:=HB.out.size;simp;omega)) hb62)
    clear q61_0 q61_1 q61_2 q61_3 q61_4 q61_5 q61_6 q61_7 r61_0 r61_1 r61_2 r61_3
    obtain⟨q62_0,q62_1,q62_2,q62_3,q62_4,q62_5,q62_6,q62_7⟩:=(HC _ HB.out).out
    clear hb62
    have r62_0:=Nat.lt_of_lt_of_le (show w.heap.size<W.heap.size by have:=HWs.out;omega) HB.out.size
    have r62_1:=Nat.lt_of_lt_of_le (show w.heap.size+1<W.heap.size by have:=HWs.out;omega) HB.out.size
    have r62_2:=Nat.lt_of_lt_of_le (show w.heap.size+1+1<W.heap.size by have:=HWs.out;omega) HB.out.size
    have r62_3:=Nat.lt_of_lt_of_le (show w.heap.size+1+1+1<W.heap.size by have:=HWs.out;omega) HB.out.size
    go_wp2_with fail
    go_ret
    exact⟨rfl,(HW.out.trans (HB.out.mono (by have:=HWs.out;omega)))⟩
   ·have hz:(t1==0)=false:=by simpa using h1
    clear h12 e1 e2 e3
    go_enter Try.func25,Try.ntmps25
    go_wp2_with fail
    first|refine wp_name (fun W hW=> ?_)|refine calls_name (fun W hW=> ?_)
    have HW:Hid (Below w.heap.size w W):=Lib.hid (by rw[←hW];repeat (first|exact Below.refl _ _|refine below_alloc ?_))
    have HWs:Hid (W.heap.size=w.heap.size+1+1+1+1):=Lib.hid (by rw[←hW];simp)
    have HBW:Hid (W.heap.size≤W.heap.size):=Lib.hid (by have:=HWs.out;omega)
    have HC:=fun(W1:World) (hb:Below (W.heap.size) W W1)=>Lib.hid (show W1.cell? ⟨w.heap.size,0,none⟩=some (.int .i64 a.x)∧W1.cell? ⟨w.heap.size,1,none⟩=some (.int .i64 a.y)∧W1.cell? ⟨w.heap.size+1,0,none⟩=some (.int .i64 b.x)∧W1.cell? ⟨w.heap.size+1,1,none⟩=some (.int .i64 b.y)∧W1.cell? ⟨w.heap.size+1+1,0,none⟩=some (.int .i64 c.x)∧W1.cell? ⟨w.heap.size+1+1,1,none⟩=some (.int .i64 c.y)∧W1.cell? ⟨w.heap.size+1+1+1,0,none⟩=some (.int .i64 d.x)∧W1.cell? ⟨w.heap.size+1+1+1,1,none⟩=some (.int .i64 d.y) from by exact⟨(hb.cell (p:=⟨w.heap.size,0,none⟩) (by show w.heap.size<W.heap.size;have:=HWs.out;omega)).trans (by rw[←hW];clear hW;go_simp),(hb.cell (p:=⟨w.heap.size,1,none⟩) (by show w.heap.size<W.heap.size;have:=HWs.out;omega)).trans (by rw[←hW];clear hW;go_simp),(hb.cell (p:=⟨w.heap.size+1,0,none⟩) (by show w.heap.size+1<W.heap.size;have:=HWs.out;omega)).trans (by rw[←hW];clear hW;go_simp),(hb.cell (p:=⟨w.heap.size+1,1,none⟩) (by show w.heap.size+1<W.heap.size;have:=HWs.out;omega)).trans (by rw[←hW];clear hW;go_simp),(hb.cell (p:=⟨w.heap.size+1+1,0,none⟩) (by show w.heap.size+1+1<W.heap.size;have:=HWs.out;omega)).trans (by rw[←hW];clear hW;go_simp),(hb.cell (p:=⟨w.heap.size+1+1,1,none⟩) (by show w.heap.size+1+1<W.heap.size;have:=HWs.out;omega)).trans (by rw[←hW];clear hW;go_simp),(hb.cell (p:=⟨w.heap.size+1+1+1,0,none⟩) (by show w.heap.size+1+1+1<W.heap.size;have:=HWs.out;omega)).trans (by rw[←hW];clear hW;go_simp),(hb.cell (p:=⟨w.heap.size+1+1+1,1,none⟩) (by show w.heap.size+1+1+1<W.heap.size;have:=HWs.out;omega)).trans (by rw[←hW];clear hW;go_simp)⟩)
    have HB:=Lib.hid (Below.refl (W.heap.size) W)
    clear hW
    obtain⟨q64_0,q64_1,q64_2,q64_3,q64_4,q64_5,q64_6,q64_7⟩:=(HC _ HB.out).out
    have r64_0:=Nat.lt_of_lt_of_le (show w.heap.size<W.heap.size by have:=HWs.out;omega) HB.out.size
    have r64_1:=Nat.lt_of_lt_of_le (show w.heap.size+1<W.heap.size by have:=HWs.out;omega) HB.out.size
    have r64_2:=Nat.lt_of_lt_of_le (show w.heap.size+1+1<W.heap.size by have:=HWs.out;omega) HB.out.size
    have r64_3:=Nat.lt_of_lt_of_le (show w.heap.size+1+1+1<W.heap.size by have:=HWs.out;omega) HB.out.size
    refine((T1 _).out).mono ?_
    rintro e w65 ⟨rfl,hb65⟩
    have HB:=Lib.hid (below_next (below_next HB.out (Nat.le_trans HBW.out HB.out.size) (by repeat (first|exact Below.refl _ _|refine below_alloc ?_))) (by first|exact(Nat.le_trans HBW.out HB.out.size)|(simp;done)|(have h1:=HBW.out;have h2:=HB.out.size;simp;omega)) hb65)
    clear q64_0 q64_1 q64_2 q64_3 q64_4 q64_5 q64_6 q64_7 r64_0 r64_1 r64_2 r64_3
    obtain⟨q65_0,q65_1,q65_2,q65_3,q65_4,q65_5,q65_6,q65_7⟩:=(HC _ HB.out).out
    clear hb65
    have r65_0:=Nat.lt_of_lt_of_le (show w.heap.size<W.heap.size by have:=HWs.out;omega) HB.out.size
    have r65_1:=Nat.lt_of_lt_of_le (show w.heap.size+1<W.heap.size by have:=HWs.out;omega) HB.out.size
    have r65_2:=Nat.lt_of_lt_of_le (show w.heap.size+1+1<W.heap.size by have:=HWs.out;omega) HB.out.size
    have r65_3:=Nat.lt_of_lt_of_le (show w.heap.size+1+1+1<W.heap.size by have:=HWs.out;omega) HB.out.size
    go_wp2_with fail
    go_ret
    exact⟨rfl,(HW.out.trans (HB.out.mono (by have:=HWs.out;omega)))⟩
  ·have r1:=eq_pt_f e1
   have r2:=eq_pt_f e2
   have r3:=eq_pt_f e3
   have r4:=eq_pt_t e4
   simp only[HE.out,if_true]
   by_cases h1:t1=0
   ·have hz:(t2==0)=false:=by simpa using fun h=>h12 ⟨h1,h⟩
    subst h1
    clear h12 e1 e2 e3 e4
    go_enter Try.func25,Try.ntmps25
    go_wp2_with fail
    first|refine wp_name (fun W hW=> ?_)|refine calls_name (fun W hW=> ?_)
    have HW:Hid (Below w.heap.size w W):=Lib.hid (by rw[←hW];repeat (first|exact Below.refl _ _|refine below_alloc ?_))
    have HWs:Hid (W.heap.size=w.heap.size+1+1+1+1):=Lib.hid (by rw[←hW];simp)
    have HBW:Hid (W.heap.size≤W.heap.size):=Lib.hid (by have:=HWs.out;omega)
    have HC:=fun(W1:World) (hb:Below (W.heap.size) W W1)=>Lib.hid (show W1.cell? ⟨w.heap.size,0,none⟩=some (.int .i64 a.x)∧W1.cell? ⟨w.heap.size,1,none⟩=some (.int .i64 a.y)∧W1.cell? ⟨w.heap.size+1,0,none⟩=some (.int .i64 b.x)∧W1.cell? ⟨w.heap.size+1,1,none⟩=some (.int .i64 b.y)∧W1.cell? ⟨w.heap.size+1+1,0,none⟩=some (.int .i64 c.x)∧W1.cell? ⟨w.heap.size+1+1,1,none⟩=some (.int .i64 c.y)∧W1.cell? ⟨w.heap.size+1+1+1,0,none⟩=some (.int .i64 d.x)∧W1.cell? ⟨w.heap.size+1+1+1,1,none⟩=some (.int .i64 d.y) from by exact⟨(hb.cell (p:=⟨w.heap.size,0,none⟩) (by show w.heap.size<W.heap.size;have:=HWs.out;omega)).trans (by rw[←hW];clear hW;go_simp),(hb.cell (p:=⟨w.heap.size,1,none⟩) (by show w.heap.size<W.heap.size;have:=HWs.out;omega)).trans (by rw[←hW];clear hW;go_simp),(hb.cell (p:=⟨w.heap.size+1,0,none⟩) (by show w.heap.size+1<W.heap.size;have:=HWs.out;omega)).trans (by rw[←hW];clear hW;go_simp),(hb.cell (p:=⟨w.heap.size+1,1,none⟩) (by show w.heap.size+1<W.heap.size;have:=HWs.out;omega)).trans (by rw[←hW];clear hW;go_simp),(hb.cell (p:=⟨w.heap.size+1+1,0,none⟩) (by show w.heap.size+1+1<W.heap.size;have:=HWs.out;omega)).trans (by rw[←hW];clear hW;go_simp),(hb.cell (p:=⟨w.heap.size+1+1,1,none⟩) (by show w.heap.size+1+1<W.heap.size;have:=HWs.out;omega)).trans (by rw[←hW];clear hW;go_simp),(hb.cell (p:=⟨w.heap.size+1+1+1,0,none⟩) (by show w.heap.size+1+1+1<W.heap.size;have:=HWs.out;omega)).trans (by rw[←hW];clear hW;go_simp),(hb.cell (p:=⟨w.heap.size+1+1+1,1,none⟩) (by show w.heap.size+1+1+1<W.heap.size;have:=HWs.out;omega)).trans (by rw[←hW];clear hW;go_simp)⟩)
    have HB:=Lib.hid (Below.refl (W.heap.size) W)
    clear hW
    obtain⟨q67_0,q67_1,q67_2,q67_3,q67_4,q67_5,q67_6,q67_7⟩:=(HC _ HB.out).out
    have r67_0:=Nat.lt_of_lt_of_le (show w.heap.size<W.heap.size by have:=HWs.out;omega) HB.out.size
    have r67_1:=Nat.lt_of_lt_of_le (show w.heap.size+1<W.heap.size by have:=HWs.out;omega) HB.out.size
    have r67_2:=Nat.lt_of_lt_of_le (show w.heap.size+1+1<W.heap.size by have:=HWs.out;omega) HB.out.size
    have r67_3:=Nat.lt_of_lt_of_le (show w.heap.size+1+1+1<W.heap.size by have:=HWs.out;omega) HB.out.size
    refine((T1 _).out).mono ?_
    rintro e w68 ⟨rfl,hb68⟩
    have HB:=Lib.hid (below_next (below_next HB.out (Nat.le_trans HBW.out HB.out.size) (by repeat (first|exact Below.refl _ _|refine below_alloc ?_))) (by first|exact(Nat.le_trans HBW.out HB.out.size)|(simp;done)|(have h1:=HBW.out;have h2:=HB.out.size;simp;omega)) hb68)
    clear q67_0 q67_1 q67_2 q67_3 q67_4 q67_5 q67_6 q67_7 r67_0 r67_1 r67_2 r67_3
    obtain⟨q68_0,q68_1,q68_2,q68_3,q68_4,q68_5,q68_6,q68_7⟩:=(HC _ HB.out).out
    clear hb68
    have r68_0:=Nat.lt_of_lt_of_le (show w.heap.size<W.heap.size by have:=HWs.out;omega) HB.out.size
    have r68_1:=Nat.lt_of_lt_of_le (show w.heap.size+1<W.heap.size by have:=HWs.out;omega) HB.out.size
    have r68_2:=Nat.lt_of_lt_of_le (show w.heap.size+1+1<W.heap.size by have:=HWs.out;omega) HB.out.size
    have r68_3:=Nat.lt_of_lt_of_le (show w.heap.size+1+1+1<W.heap.size by have:=HWs.out;omega) HB.out.size
    go_wp2_with fail
    refine((T2 _).out).mono ?_
    rintro e w69 ⟨rfl,hb69⟩
    have HB:=Lib.hid (below_next (below_next HB.out (Nat.le_trans HBW.out HB.out.size) (by repeat (first|exact Below.refl _ _|refine below_alloc ?_))) (by first|exact(Nat.le_trans HBW.out HB.out.size)|(simp;done)|(have h1:=HBW.out;have h2:=HB.out.size;simp;omega)) hb69)
    clear q68_0 q68_1 q68_2 q68_3 q68_4 q68_5 q68_6 q68_7 r68_0 r68_1 r68_2 r68_3
    obtain⟨q69_0,q69_1,q69_2,q69_3,q69_4,q69_5,q69_6,q69_7⟩:=(HC _ HB.out).out
    clear hb69
    have r69_0:=Nat.lt_of_lt_of_le (show w.heap.size<W.heap.size by have:=HWs.out;omega) HB.out.size
    have r69_1:=Nat.lt_of_lt_of_le (show w.heap.size+1<W.heap.size by have:=HWs.out;omega) HB.out.size
    have r69_2:=Nat.lt_of_lt_of_le (show w.heap.size+1+1<W.heap.size by have:=HWs.out;omega) HB.out.size
    have r69_3:=Nat.lt_of_lt_of_le (show w.heap.size+1+1+1<W.heap.size by have:=HWs.out;omega) HB.out.size
    go_wp2_with fail
    go_ret
    exact⟨rfl,(HW.out.trans (HB.out.mono (by have:=HWs.out;omega)))⟩
   ·have hz:(t1==0)=false:=by simpa using h1
    clear h12 e1 e2 e3 e4
    go_enter Try.func25,Try.ntmps25
    go_wp2_with fail
    first|refine wp_name (fun W hW=> ?_)|refine calls_name (fun W hW=> ?_)
    have HW:Hid (Below w.heap.size w W):=Lib.hid (by rw[←hW];repeat (first|exact Below.refl _ _|refine below_alloc ?_))
    have HWs:Hid (W.heap.size=w.heap.size+1+1+1+1):=Lib.hid (by rw[←hW];simp)
    have HBW:Hid (W.heap.size≤W.heap.size):=Lib.hid (by have:=HWs.out;omega)
    have HC:=fun(W1:World) (hb:Below (W.heap.size) W W1)=>Lib.hid (show W1.cell? ⟨w.heap.size,0,none⟩=some (.int .i64 a.x)∧W1.cell? ⟨w.heap.size,1,none⟩=some (.int .i64 a.y)∧W1.cell? ⟨w.heap.size+1,0,none⟩=some (.int .i64 b.x)∧W1.cell? ⟨w.heap.size+1,1,none⟩=some (.int .i64 b.y)∧W1.cell? ⟨w.heap.size+1+1,0,none⟩=some (.int .i64 c.x)∧W1.cell? ⟨w.heap.size+1+1,1,none⟩=some (.int .i64 c.y)∧W1.cell? ⟨w.heap.size+1+1+1,0,none⟩=some (.int .i64 d.x)∧W1.cell? ⟨w.heap.size+1+1+1,1,none⟩=some (.int .i64 d.y) from by exact⟨(hb.cell (p:=⟨w.heap.size,0,none⟩) (by show w.heap.size<W.heap.size;have:=HWs.out;omega)).trans (by rw[←hW];clear hW;go_simp),(hb.cell (p:=⟨w.heap.size,1,none⟩) (by show w.heap.size<W.heap.size;have:=HWs.out;omega)).trans (by rw[←hW];clear hW;go_simp),(hb.cell (p:=⟨w.heap.size+1,0,none⟩) (by show w.heap.size+1<W.heap.size;have:=HWs.out;omega)).trans (by rw[←hW];clear hW;go_simp),(hb.cell (p:=⟨w.heap.size+1,1,none⟩) (by show w.heap.size+1<W.heap.size;have:=HWs.out;omega)).trans (by rw[←hW];clear hW;go_simp),(hb.cell (p:=⟨w.heap.size+1+1,0,none⟩) (by show w.heap.size+1+1<W.heap.size;have:=HWs.out;omega)).trans (by rw[←hW];clear hW;go_simp),(hb.cell (p:=⟨w.heap.size+1+1,1,none⟩) (by show w.heap.size+1+1<W.heap.size;have:=HWs.out;omega)).trans (by rw[←hW];clear hW;go_simp),(hb.cell (p:=⟨w.heap.size+1+1+1,0,none⟩) (by show w.heap.size+1+1+1<W.heap.size;have:=HWs.out;omega)).trans (by rw[←hW];clear hW;go_simp),(hb.cell (p:=⟨w.heap.size+1+1+1,1,none⟩) (by show w.heap.size+1+1+1<W.heap.size;have:=HWs.out;omega)).trans (by rw[←hW];clear hW;go_simp)⟩)
    have HB:=Lib.hid (Below.refl (W.heap.size) W)
    clear hW
    obtain⟨q71_0,q71_1,q71_2,q71_3,q71_4,q71_5,q71_6,q71_7⟩:=(HC _ HB.out).out
    have r71_0:=Nat.lt_of_lt_of_le (show w.heap.size<W.heap.size by have:=HWs.out;omega) HB.out.size
    have r71_1:=Nat.lt_of_lt_of_le (show w.heap.size+1<W.heap.size by have:=HWs.out;omega) HB.out.size
    have r71_2:=Nat.lt_of_lt_of_le (show w.heap.size+1+1<W.heap.size by have:=HWs.out;omega) HB.out.size
    have r71_3:=Nat.lt_of_lt_of_le (show w.heap.size+1+1+1<W.heap.size by have:=HWs.out;omega) HB.out.size
    refine((T1 _).out).mono ?_
    rintro e w72 ⟨rfl,hb72⟩
    have HB:=Lib.hid (below_next (below_next HB.out (Nat.le_trans HBW.out HB.out.size) (by repeat (first|exact Below.refl _ _|refine below_alloc ?_))) (by first|exact(Nat.le_trans HBW.out HB.out.size)|(simp;done)|(have h1:=HBW.out;have h2:=HB.out.size;simp;omega)) hb72)
    clear q71_0 q71_1 q71_2 q71_3 q71_4 q71_5 q71_6 q71_7 r71_0 r71_1 r71_2 r71_3
    obtain⟨q72_0,q72_1,q72_2,q72_3,q72_4,q72_5,q72_6,q72_7⟩:=(HC _ HB.out).out
    clear hb72
    have r72_0:=Nat.lt_of_lt_of_le (show w.heap.size<W.heap.size by have:=HWs.out;omega) HB.out.size
    have r72_1:=Nat.lt_of_lt_of_le (show w.heap.size+1<W.heap.size by have:=HWs.out;omega) HB.out.size
    have r72_2:=Nat.lt_of_lt_of_le (show w.heap.size+1+1<W.heap.size by have:=HWs.out;omega) HB.out.size
    have r72_3:=Nat.lt_of_lt_of_le (show w.heap.size+1+1+1<W.heap.size by have:=HWs.out;omega) HB.out.size
    go_wp2_with fail
    go_ret
    exact⟨rfl,(HW.out.trans (HB.out.mono (by have:=HWs.out;omega)))⟩
  ·have r1:=eq_pt_f e1
   have r2:=eq_pt_f e2
   have r3:=eq_pt_f e3
   have r4:=eq_pt_f e4
   simp only[HE.out,if_false]
   clear e1 e2 e3 e4
   by_cases h1:t1=0
   ·have hz:(t2==0)=false:=by simpa using fun h=>h12 ⟨h1,h⟩
    have hy:((0:Int)==t2)=false:=by simpa using fun h=>h12 ⟨h1,h.symm⟩
    have hx:decide ((0:Int)=t2)=false:=by simpa using hy
    subst h1
    rw[hx,Bool.false_or]
    clear h12 hx
    by_cases h34:t3=t4
    ·subst h34
     go_enter Try.func25,Try.ntmps25
     go_wp2_with fail
     first|refine wp_name (fun W hW=> ?_)|refine calls_name (fun W hW=> ?_)
     have HW:Hid (Below w.heap.size w W):=Lib.hid (by rw[←hW];repeat (first|exact Below.refl _ _|refine below_alloc ?_))
     have HWs:Hid (W.heap.size=w.heap.size+1+1+1+1):=Lib.hid (by rw[←hW];simp)
     have HBW:Hid (W.heap.size≤W.heap.size):=Lib.hid (by have:=HWs.out;omega)
     have HC:=fun(W1:World) (hb:Below (W.heap.size) W W1)=>Lib.hid (show W1.cell? ⟨w.heap.size,0,none⟩=some (.int .i64 a.x)∧W1.cell? ⟨w.heap.size,1,none⟩=some (.int .i64 a.y)∧W1.cell? ⟨w.heap.size+1,0,none⟩=some (.int .i64 b.x)∧W1.cell? ⟨w.heap.size+1,1,none⟩=some (.int .i64 b.y)∧W1.cell? ⟨w.heap.size+1+1,0,none⟩=some (.int .i64 c.x)∧W1.cell? ⟨w.heap.size+1+1,1,none⟩=some (.int .i64 c.y)∧W1.cell? ⟨w.heap.size+1+1+1,0,none⟩=some (.int .i64 d.x)∧W1.cell? ⟨w.heap.size+1+1+1,1,none⟩=some (.int .i64 d.y) from by exact⟨(hb.cell (p:=⟨w.heap.size,0,none⟩) (by show w.heap.size<W.heap.size;have:=HWs.out;omega)).trans (by rw[←hW];clear hW;go_simp),(hb.cell (p:=⟨w.heap.size,1,none⟩) (by show w.heap.size<W.heap.size;have:=HWs.out;omega)).trans (by rw[←hW];clear hW;go_simp),(hb.cell (p:=⟨w.heap.size+1,0,none⟩) (by show w.heap.size+1<W.heap.size;have:=HWs.out;omega)).trans (by rw[←hW];clear hW;go_simp),(hb.cell (p:=⟨w.heap.size+1,1,none⟩) (by show w.heap.size+1<W.heap.size;have:=HWs.out;omega)).trans (by rw[←hW];clear hW;go_simp),(hb.cell (p:=⟨w.heap.size+1+1,0,none⟩) (by show w.heap.size+1+1<W.heap.size;have:=HWs.out;omega)).trans (by rw[←hW];clear hW;go_simp),(hb.cell (p:=⟨w.heap.size+1+1,1,none⟩) (by show w.heap.size+1+1<W.heap.size;have:=HWs.out;omega)).trans (by rw[←hW];clear hW;go_simp),(hb.cell (p:=⟨w.heap.size+1+1+1,0,none⟩) (by show w.heap.size+1+1+1<W.heap.size;have:=HWs.out;omega)).trans (by rw[←hW];clear hW;go_simp),(hb.cell (p:=⟨w.heap.size+1+1+1,1,none⟩) (by show w.heap.size+1+1+1<W.heap.size;have:=HWs.out;omega)).trans (by rw[←hW];clear hW;go_simp)⟩)
     have HB:=Lib.hid (Below.refl (W.heap.size) W)
     clear hW
     obtain⟨q74_0,q74_1,q74_2,q74_3,q74_4,q74_5,q74_6,q74_7⟩:=(HC _ HB.out).out
     have r74_0:=Nat.lt_of_lt_of_le (show w.heap.size<W.heap.size by have:=HWs.out;omega) HB.out.size
     have r74_1:=Nat.lt_of_lt_of_le (show w.heap.size+1<W.heap.size by have:=HWs.out;omega) HB.out.size
     have r74_2:=Nat.lt_of_lt_of_le (show w.heap.size+1+1<W.heap.size by have:=HWs.out;omega) HB.out.size
     have r74_3:=Nat.lt_of_lt_of_le (show w.heap.size+1+1+1<W.heap.size by have:=HWs.out;omega) HB.out.size
     refine((T1 _).out).mono ?_
     rintro e w75 ⟨rfl,hb75⟩
     have HB:=Lib.hid (below_next (below_next HB.out (Nat.le_trans HBW.out HB.out.size) (by repeat (first|exact Below.refl _ _|refine below_alloc ?_))) (by first|exact(Nat.le_trans HBW.out HB.out.size)|(simp;done)|(have h1:=HBW.out;have h2:=HB.out.size;simp;omega)) hb75)
     clear q74_0 q74_1 q74_2 q74_3 q74_4 q74_5 q74_6 q74_7 r74_0 r74_1 r74_2 r74_3
     obtain⟨q75_0,q75_1,q75_2,q75_3,q75_4,q75_5,q75_6,q75_7⟩:=(HC _ HB.out).out
     clear hb75
     have r75_0:=Nat.lt_of_lt_of_le (show w.heap.size<W.heap.size by have:=HWs.out;omega) HB.out.size
     have r75_1:=Nat.lt_of_lt_of_le (show w.heap.size+1<W.heap.size by have:=HWs.out;omega) HB.out.size
     have r75_2:=Nat.lt_of_lt_of_le (show w.heap.size+1+1<W.heap.size by have:=HWs.out;omega) HB.out.size
     have r75_3:=Nat.lt_of_lt_of_le (show w.heap.size+1+1+1<W.heap.size by have:=HWs.out;omega) HB.out.size
     go_wp2_with fail
     refine((T2 _).out).mono ?_
     rintro e w76 ⟨rfl,hb76⟩
     have HB:=Lib.hid (below_next (below_next HB.out (Nat.le_trans HBW.out HB.out.size) (by repeat (first|exact Below.refl _ _|refine below_alloc ?_))) (by first|exact(Nat.le_trans HBW.out HB.out.size)|(simp;done)|(have h1:=HBW.out;have h2:=HB.out.size;simp;omega)) hb76)
     clear q75_0 q75_1 q75_2 q75_3 q75_4 q75_5 q75_6 q75_7 r75_0 r75_1 r75_2 r75_3
     obtain⟨q76_0,q76_1,q76_2,q76_3,q76_4,q76_5,q76_6,q76_7⟩:=(HC _ HB.out).out
     clear hb76
     have r76_0:=Nat.lt_of_lt_of_le (show w.heap.size<W.heap.size by have:=HWs.out;omega) HB.out.size
     have r76_1:=Nat.lt_of_lt_of_le (show w.heap.size+1<W.heap.size by have:=HWs.out;omega) HB.out.size
     have r76_2:=Nat.lt_of_lt_of_le (show w.heap.size+1+1<W.heap.size by have:=HWs.out;omega) HB.out.size
     have r76_3:=Nat.lt_of_lt_of_le (show w.heap.size+1+1+1<W.heap.size by have:=HWs.out;omega) HB.out.size
     go_wp2_with fail
     refine wp_name (fun c77 hc77=> ?_)
     have HB:=Lib.hid (below_name (below_next HB.out (Nat.le_trans HBW.out HB.out.size) (by repeat (first|exact Below.refl _ _|refine below_alloc ?_))) hc77)
     clear hc77
     have x77_0:=fun(x:Later c77)=>(HC _ (below_next HB.out (Nat.le_trans HBW.out HB.out.size) x.2)).out.1
     have x77_1:=fun(x:Later c77)=>(HC _ (below_next HB.out (Nat.le_trans HBW.out HB.out.size) x.2)).out.2.1
     have x77_2:=fun(x:Later c77)=>(HC _ (below_next HB.out (Nat.le_trans HBW.out HB.out.size) x.2)).out.2.2.1
     have x77_3:=fun(x:Later c77)=>(HC _ (below_next HB.out (Nat.le_trans HBW.out HB.out.size) x.2)).out.2.2.2.1
     have x77_4:=fun(x:Later c77)=>(HC _ (below_next HB.out (Nat.le_trans HBW.out HB.out.size) x.2)).out.2.2.2.2.1
     have x77_5:=fun(x:Later c77)=>(HC _ (below_next HB.out (Nat.le_trans HBW.out HB.out.size) x.2)).out.2.2.2.2.2.1
     have x77_6:=fun(x:Later c77)=>(HC _ (below_next HB.out (Nat.le_trans HBW.out HB.out.size) x.2)).out.2.2.2.2.2.2.1
     have x77_7:=fun(x:Later c77)=>(HC _ (below_next HB.out (Nat.le_trans HBW.out HB.out.size) x.2)).out.2.2.2.2.2.2.2
     refine wp_region_later (by kernel_rfl) (by kernel_rfl) ?_
     repeat (first|go_big_quiet_step (((first|(go_at_call 52;with_reducible refine Later.call (T1 _).out)|(go_at_call 52;with_reducible refine Later.call (T2 _).out)|(go_at_call 52;with_reducible refine Later.call (T3 _).out)|(go_at_call 52;with_reducible refine Later.call (T4 _).out))))|quiet_step (((first|(go_at_call 52;with_reducible refine Later.call (T1 _).out)|(go_at_call 52;with_reducible refine Later.call (T2 _).out)|(go_at_call 52;with_reducible refine Later.call (T3 _).out)|(go_at_call 52;with_reducible refine Later.call (T4 _).out)))))
     refine wpQuiet_nil ?_
     intro w77 hw77
     have hb77:=later_below hw77
     clear hw77
     have HB:=Lib.hid (below_next HB.out (Nat.le_trans HBW.out HB.out.size) hb77)
     clear x77_0 x77_1 x77_2 x77_3 x77_4 x77_5 x77_6 x77_7
     clear q76_0 q76_1 q76_2 q76_3 q76_4 q76_5 q76_6 q76_7 r76_0 r76_1 r76_2 r76_3
     obtain⟨q77_0,q77_1,q77_2,q77_3,q77_4,q77_5,q77_6,q77_7⟩:=(HC _ HB.out).out
     clear hb77
     have r77_0:=Nat.lt_of_lt_of_le (show w.heap.size<W.heap.size by have:=HWs.out;omega) HB.out.size
     have r77_1:=Nat.lt_of_lt_of_le (show w.heap.size+1<W.heap.size by have:=HWs.out;omega) HB.out.size
     have r77_2:=Nat.lt_of_lt_of_le (show w.heap.size+1+1<W.heap.size by have:=HWs.out;omega) HB.out.size
     have r77_3:=Nat.lt_of_lt_of_le (show w.heap.size+1+1+1<W.heap.size by have:=HWs.out;omega) HB.out.size
     go_wp2_with fail
     go_ret
     exact⟨rfl,(HW.out.trans (HB.out.mono (by have:=HWs.out;omega)))⟩
    ·have hw:(t3==t4)=false:=by simpa using h34
     rw[show decide (t3=t4)=false by simpa using h34]
     clear h34
     go_enter Try.func25,Try.ntmps25
     go_wp2_with fail
     first|refine wp_name (fun W hW=> ?_)|refine calls_name (fun W hW=> ?_)
     have HW:Hid (Below w.heap.size w W):=Lib.hid (by rw[←hW];repeat (first|exact Below.refl _ _|refine below_alloc ?_))
     have HWs:Hid (W.heap.size=w.heap.size+1+1+1+1):=Lib.hid (by rw[←hW];simp)
     have HBW:Hid (W.heap.size≤W.heap.size):=Lib.hid (by have:=HWs.out;omega)
     have HC:=fun(W1:World) (hb:Below (W.heap.size) W W1)=>Lib.hid (show W1.cell? ⟨w.heap.size,0,none⟩=some (.int .i64 a.x)∧W1.cell? ⟨w.heap.size,1,none⟩=some (.int .i64 a.y)∧W1.cell? ⟨w.heap.size+1,0,none⟩=some (.int .i64 b.x)∧W1.cell? ⟨w.heap.size+1,1,none⟩=some (.int .i64 b.y)∧W1.cell? ⟨w.heap.size+1+1,0,none⟩=some (.int .i64 c.x)∧W1.cell? ⟨w.heap.size+1+1,1,none⟩=some (.int .i64 c.y)∧W1.cell? ⟨w.heap.size+1+1+1,0,none⟩=some (.int .i64 d.x)∧W1.cell? ⟨w.heap.size+1+1+1,1,none⟩=some (.int .i64 d.y) from by exact⟨(hb.cell (p:=⟨w.heap.size,0,none⟩) (by show w.heap.size<W.heap.size;have:=HWs.out;omega)).trans (by rw[←hW];clear hW;go_simp),(hb.cell (p:=⟨w.heap.size,1,none⟩) (by show w.heap.size<W.heap.size;have:=HWs.out;omega)).trans (by rw[←hW];clear hW;go_simp),(hb.cell (p:=⟨w.heap.size+1,0,none⟩) (by show w.heap.size+1<W.heap.size;have:=HWs.out;omega)).trans (by rw[←hW];clear hW;go_simp),(hb.cell (p:=⟨w.heap.size+1,1,none⟩) (by show w.heap.size+1<W.heap.size;have:=HWs.out;omega)).trans (by rw[←hW];clear hW;go_simp),(hb.cell (p:=⟨w.heap.size+1+1,0,none⟩) (by show w.heap.size+1+1<W.heap.size;have:=HWs.out;omega)).trans (by rw[←hW];clear hW;go_simp),(hb.cell (p:=⟨w.heap.size+1+1,1,none⟩) (by show w.heap.size+1+1<W.heap.size;have:=HWs.out;omega)).trans (by rw[←hW];clear hW;go_simp),(hb.cell (p:=⟨w.heap.size+1+1+1,0,none⟩) (by show w.heap.size+1+1+1<W.heap.size;have:=HWs.out;omega)).trans (by rw[←hW];clear hW;go_simp),(hb.cell (p:=⟨w.heap.size+1+1+1,1,none⟩) (by show w.heap.size+1+1+1<W.heap.size;have:=HWs.out;omega)).trans (by rw[←hW];clear hW;go_simp)⟩)
     have HB:=Lib.hid (Below.refl (W.heap.size) W)
     clear hW
     obtain⟨q79_0,q79_1,q79_2,q79_3,q79_4,q79_5,q79_6,q79_7⟩:=(HC _ HB.out).out
     have r79_0:=Nat.lt_of_lt_of_le (show w.heap.size<W.heap.size by have:=HWs.out;omega) HB.out.size
     have r79_1:=Nat.lt_of_lt_of_le (show w.heap.size+1<W.heap.size by have:=HWs.out;omega) HB.out.size
     have r79_2:=Nat.lt_of_lt_of_le (show w.heap.size+1+1<W.heap.size by have:=HWs.out;omega) HB.out.size
     have r79_3:=Nat.lt_of_lt_of_le (show w.heap.size+1+1+1<W.heap.size by have:=HWs.out;omega) HB.out.size
     refine((T1 _).out).mono ?_
     rintro e w80 ⟨rfl,hb80⟩
     have HB:=Lib.hid (below_next (below_next HB.out (Nat.le_trans HBW.out HB.out.size) (by repeat (first|exact Below.refl _ _|refine below_alloc ?_))) (by first|exact(Nat.le_trans HBW.out HB.out.size)|(simp;done)|(have h1:=HBW.out;have h2:=HB.out.size;simp;omega)) hb80)
     clear q79_0 q79_1 q79_2 q79_3 q79_4 q79_5 q79_6 q79_7 r79_0 r79_1 r79_2 r79_3
     obtain⟨q80_0,q80_1,q80_2,q80_3,q80_4,q80_5,q80_6,q80_7⟩:=(HC _ HB.out).out
     clear hb80
     have r80_0:=Nat.lt_of_lt_of_le (show w.heap.size<W.heap.size by have:=HWs.out;omega) HB.out.size
     have r80_1:=Nat.lt_of_lt_of_le (show w.heap.size+1<W.heap.size by have:=HWs.out;omega) HB.out.size
     have r80_2:=Nat.lt_of_lt_of_le (show w.heap.size+1+1<W.heap.size by have:=HWs.out;omega) HB.out.size
     have r80_3:=Nat.lt_of_lt_of_le (show w.heap.size+1+1+1<W.heap.size by have:=HWs.out;omega) HB.out.size
     go_wp2_with fail
     refine((T2 _).out).mono ?_
     rintro e w81 ⟨rfl,hb81⟩
     have HB:=Lib.hid (below_next (below_next HB.out (Nat.le_trans HBW.out HB.out.size) (by repeat (first|exact Below.refl _ _|refine below_alloc ?_))) (by first|exact(Nat.le_trans HBW.out HB.out.size)|(simp;done)|(have h1:=HBW.out;have h2:=HB.out.size;simp;omega)) hb81)
     clear q80_0 q80_1 q80_2 q80_3 q80_4 q80_5 q80_6 q80_7 r80_0 r80_1 r80_2 r80_3
     obtain⟨q81_0,q81_1,q81_2,q81_3,q81_4,q81_5,q81_6,q81_7⟩:=(HC _ HB.out).out
     clear hb81
     have r81_0:=Nat.lt_of_lt_of_le (show w.heap.size<W.heap.size by have:=HWs.out;omega) HB.out.size
     have r81_1:=Nat.lt_of_lt_of_le (show w.heap.size+1<W.heap.size by have:=HWs.out;omega) HB.out.size
     have r81_2:=Nat.lt_of_lt_of_le (show w.heap.size+1+1<W.heap.size by have:=HWs.out;omega) HB.out.size
     have r81_3:=Nat.lt_of_lt_of_le (show w.heap.size+1+1+1<W.heap.size by have:=HWs.out;omega) HB.out.size
     go_wp2_with fail
     refine wp_name (fun c82 hc82=> ?_)
     have HB:=Lib.hid (below_name (below_next HB.out (Nat.le_trans HBW.out HB.out.size) (by repeat (first|exact Below.refl _ _|refine below_alloc ?_))) hc82)
     clear hc82
     have x82_0:=fun(x:Later c82)=>(HC _ (below_next HB.out (Nat.le_trans HBW.out HB.out.size) x.2)).out.1
     have x82_1:=fun(x:Later c82)=>(HC _ (below_next HB.out (Nat.le_trans HBW.out HB.out.size) x.2)).out.2.1
     have x82_2:=fun(x:Later c82)=>(HC _ (below_next HB.out (Nat.le_trans HBW.out HB.out.size) x.2)).out.2.2.1
     have x82_3:=fun(x:Later c82)=>(HC _ (below_next HB.out (Nat.le_trans HBW.out HB.out.size) x.2)).out.2.2.2.1
     have x82_4:=fun(x:Later c82)=>(HC _ (below_next HB.out (Nat.le_trans HBW.out HB.out.size) x.2)).out.2.2.2.2.1
     have x82_5:=fun(x:Later c82)=>(HC _ (below_next HB.out (Nat.le_trans HBW.out HB.out.size) x.2)).out.2.2.2.2.2.1
     have x82_6:=fun(x:Later c82)=>(HC _ (below_next HB.out (Nat.le_trans HBW.out HB.out.size) x.2)).out.2.2.2.2.2.2.1
     have x82_7:=fun(x:Later c82)=>(HC _ (below_next HB.out (Nat.le_trans HBW.out HB.out.size) x.2)).out.2.2.2.2.2.2.2
     refine wp_region_later (by kernel_rfl) (by kernel_rfl) ?_
     repeat (first|go_big_quiet_step (((first|(go_at_call 52;with_reducible refine Later.call (T1 _).out)|(go_at_call 52;with_reducible refine Later.call (T2 _).out)|(go_at_call 52;with_reducible refine Later.call (T3 _).out)|(go_at_call 52;with_reducible refine Later.call (T4 _).out))))|quiet_step (((first|(go_at_call 52;with_reducible refine Later.call (T1 _).out)|(go_at_call 52;with_reducible refine Later.call (T2 _).out)|(go_at_call 52;with_reducible refine Later.call (T3 _).out)|(go_at_call 52;with_reducible refine Later.call (T4 _).out)))))
     refine wpQuiet_nil ?_
     intro w82 hw82
     have hb82:=later_below hw82
     clear hw82
     have HB:=Lib.hid (below_next HB.out (Nat.le_trans HBW.out HB.out.size) hb82)
     clear x82_0 x82_1 x82_2 x82_3 x82_4 x82_5 x82_6 x82_7
     clear q81_0 q81_1 q81_2 q81_3 q81_4 q81_5 q81_6 q81_7 r81_0 r81_1 r81_2 r81_3
     obtain⟨q82_0,q82_1,q82_2,q82_3,q82_4,q82_5,q82_6,q82_7⟩:=(HC _ HB.out).out
     clear hb82
     have r82_0:=Nat.lt_of_lt_of_le (show w.heap.size<W.heap.size by have:=HWs.out;omega) HB.out.size
     have r82_1:=Nat.lt_of_lt_of_le (show w.heap.size+1<W.heap.size by have:=HWs.out;omega) HB.out.size
     have r82_2:=Nat.lt_of_lt_of_le (show w.heap.size+1+1<W.heap.size by have:=HWs.out;omega) HB.out.size
     have r82_3:=Nat.lt_of_lt_of_le (show w.heap.size+1+1+1<W.heap.size by have:=HWs.out;omega) HB.out.size
     go_wp2_with fail
     go_ret
     exact⟨rfl,(HW.out.trans (HB.out.mono (by have:=HWs.out;omega)))⟩
   ·have hz:(t1==0)=false:=by simpa using h1
    clear h12
    by_cases h2:t1=t2
    ·subst h2
     go_enter Try.func25,Try.ntmps25
     go_wp2_with fail
     first|refine wp_name (fun W hW=> ?_)|refine calls_name (fun W hW=> ?_)
     have HW:Hid (Below w.heap.size w W):=Lib.hid (by rw[←hW];repeat (first|exact Below.refl _ _|refine below_alloc ?_))
     have HWs:Hid (W.heap.size=w.heap.size+1+1+1+1):=Lib.hid (by rw[←hW];simp)
     have HBW:Hid (W.heap.size≤W.heap.size):=Lib.hid (by have:=HWs.out;omega)
     have HC:=fun(W1:World) (hb:Below (W.heap.size) W W1)=>Lib.hid (show W1.cell? ⟨w.heap.size,0,none⟩=some (.int .i64 a.x)∧W1.cell? ⟨w.heap.size,1,none⟩=some (.int .i64 a.y)∧W1.cell? ⟨w.heap.size+1,0,none⟩=some (.int .i64 b.x)∧W1.cell? ⟨w.heap.size+1,1,none⟩=some (.int .i64 b.y)∧W1.cell? ⟨w.heap.size+1+1,0,none⟩=some (.int .i64 c.x)∧W1.cell? ⟨w.heap.size+1+1,1,none⟩=some (.int .i64 c.y)∧W1.cell? ⟨w.heap.size+1+1+1,0,none⟩=some (.int .i64 d.x)∧W1.cell? ⟨w.heap.size+1+1+1,1,none⟩=some (.int .i64 d.y) from by exact⟨(hb.cell (p:=⟨w.heap.size,0,none⟩) (by show w.heap.size<W.heap.size;have:=HWs.out;omega)).trans (by rw[←hW];clear hW;go_simp),(hb.cell (p:=⟨w.heap.size,1,none⟩) (by show w.heap.size<W.heap.size;have:=HWs.out;omega)).trans (by rw[←hW];clear hW;go_simp),(hb.cell (p:=⟨w.heap.size+1,0,none⟩) (by show w.heap.size+1<W.heap.size;have:=HWs.out;omega)).trans (by rw[←hW];clear hW;go_simp),(hb.cell (p:=⟨w.heap.size+1,1,none⟩) (by show w.heap.size+1<W.heap.size;have:=HWs.out;omega)).trans (by rw[←hW];clear hW;go_simp),(hb.cell (p:=⟨w.heap.size+1+1,0,none⟩) (by show w.heap.size+1+1<W.heap.size;have:=HWs.out;omega)).trans (by rw[←hW];clear hW;go_simp),(hb.cell (p:=⟨w.heap.size+1+1,1,none⟩) (by show w.heap.size+1+1<W.heap.size;have:=HWs.out;omega)).trans (by rw[←hW];clear hW;go_simp),(hb.cell (p:=⟨w.heap.size+1+1+1,0,none⟩) (by show w.heap.size+1+1+1<W.heap.size;have:=HWs.out;omega)).trans (by rw[←hW];clear hW;go_simp),(hb.cell (p:=⟨w.heap.size+1+1+1,1,none⟩) (by show w.heap.size+1+1+1<W.heap.size;have:=HWs.out;omega)).trans (by rw[←hW];clear hW;go_simp)⟩)
     have HB:=Lib.hid (Below.refl (W.heap.size) W)
     clear hW
     obtain⟨q84_0,q84_1,q84_2,q84_3,q84_4,q84_5,q84_6,q84_7⟩:=(HC _ HB.out).out
     have r84_0:=Nat.lt_of_lt_of_le (show w.heap.size<W.heap.size by have:=HWs.out;omega) HB.out.size
     have r84_1:=Nat.lt_of_lt_of_le (show w.heap.size+1<W.heap.size by have:=HWs.out;omega) HB.out.size
     have r84_2:=Nat.lt_of_lt_of_le (show w.heap.size+1+1<W.heap.size by have:=HWs.out;omega) HB.out.size
     have r84_3:=Nat.lt_of_lt_of_le (show w.heap.size+1+1+1<W.heap.size by have:=HWs.out;omega) HB.out.size
     refine((T1 _).out).mono ?_
     rintro e w85 ⟨rfl,hb85⟩
     have HB:=Lib.hid (below_next (below_next HB.out (Nat.le_trans HBW.out HB.out.size) (by repeat (first|exact Below.refl _ _|refine below_alloc ?_))) (by first|exact(Nat.le_trans HBW.out HB.out.size)|(simp;done)|(have h1:=HBW.out;have h2:=HB.out.size;simp;omega)) hb85)
     clear q84_0 q84_1 q84_2 q84_3 q84_4 q84_5 q84_6 q84_7 r84_0 r84_1 r84_2 r84_3
     obtain⟨q85_0,q85_1,q85_2,q85_3,q85_4,q85_5,q85_6,q85_7⟩:=(HC _ HB.out).out
     clear hb85
     have r85_0:=Nat.lt_of_lt_of_le (show w.heap.size<W.heap.size by have:=HWs.out;omega) HB.out.size
     have r85_1:=Nat.lt_of_lt_of_le (show w.heap.size+1<W.heap.size by have:=HWs.out;omega) HB.out.size
     have r85_2:=Nat.lt_of_lt_of_le (show w.heap.size+1+1<W.heap.size by have:=HWs.out;omega) HB.out.size
     have r85_3:=Nat.lt_of_lt_of_le (show w.heap.size+1+1+1<W.heap.size by have:=HWs.out;omega) HB.out.size
     go_wp2_with fail
     refine wp_name (fun c86 hc86=> ?_)
     have HB:=Lib.hid (below_name (below_next HB.out (Nat.le_trans HBW.out HB.out.size) (by repeat (first|exact Below.refl _ _|refine below_alloc ?_))) hc86)
     clear hc86
     have x86_0:=fun(x:Later c86)=>(HC _ (below_next HB.out (Nat.le_trans HBW.out HB.out.size) x.2)).out.1
     have x86_1:=fun(x:Later c86)=>(HC _ (below_next HB.out (Nat.le_trans HBW.out HB.out.size) x.2)).out.2.1
     have x86_2:=fun(x:Later c86)=>(HC _ (below_next HB.out (Nat.le_trans HBW.out HB.out.size) x.2)).out.2.2.1
     have x86_3:=fun(x:Later c86)=>(HC _ (below_next HB.out (Nat.le_trans HBW.out HB.out.size) x.2)).out.2.2.2.1
     have x86_4:=fun(x:Later c86)=>(HC _ (below_next HB.out (Nat.le_trans HBW.out HB.out.size) x.2)).out.2.2.2.2.1
     have x86_5:=fun(x:Later c86)=>(HC _ (below_next HB.out (Nat.le_trans HBW.out HB.out.size) x.2)).out.2.2.2.2.2.1
     have x86_6:=fun(x:Later c86)=>(HC _ (below_next HB.out (Nat.le_trans HBW.out HB.out.size) x.2)).out.2.2.2.2.2.2.1
     have x86_7:=fun(x:Later c86)=>(HC _ (below_next HB.out (Nat.le_trans HBW.out HB.out.size) x.2)).out.2.2.2.2.2.2.2
     refine wp_region_later (by kernel_rfl) (by kernel_rfl) ?_
     repeat (first|go_big_quiet_step (((first|(go_at_call 52;with_reducible refine Later.call (T1 _).out)|(go_at_call 52;with_reducible refine Later.call (T2 _).out)|(go_at_call 52;with_reducible refine Later.call (T3 _).out)|(go_at_call 52;with_reducible refine Later.call (T4 _).out))))|quiet_step (((first|(go_at_call 52;with_reducible refine Later.call (T1 _).out)|(go_at_call 52;with_reducible refine Later.call (T2 _).out)|(go_at_call 52;with_reducible refine Later.call (T3 _).out)|(go_at_call 52;with_reducible refine Later.call (T4 _).out)))))
     refine wpQuiet_nil ?_
     intro w86 hw86
     have hb86:=later_below hw86
     clear hw86
     have HB:=Lib.hid (below_next HB.out (Nat.le_trans HBW.out HB.out.size) hb86)
     clear x86_0 x86_1 x86_2 x86_3 x86_4 x86_5 x86_6 x86_7
     clear q85_0 q85_1 q85_2 q85_3 q85_4 q85_5 q85_6 q85_7 r85_0 r85_1 r85_2 r85_3
     obtain⟨q86_0,q86_1,q86_2,q86_3,q86_4,q86_5,q86_6,q86_7⟩:=(HC _ HB.out).out
     clear hb86
     have r86_0:=Nat.lt_of_lt_of_le (show w.heap.size<W.heap.size by have:=HWs.out;omega) HB.out.size
     have r86_1:=Nat.lt_of_lt_of_le (show w.heap.size+1<W.heap.size by have:=HWs.out;omega) HB.out.size
     have r86_2:=Nat.lt_of_lt_of_le (show w.heap.size+1+1<W.heap.size by have:=HWs.out;omega) HB.out.size
     have r86_3:=Nat.lt_of_lt_of_le (show w.heap.size+1+1+1<W.heap.size by have:=HWs.out;omega) HB.out.size
     go_wp2_with fail
     go_ret
     exact⟨rfl,(HW.out.trans (HB.out.mono (by have:=HWs.out;omega)))⟩
    ·have hv:(t1==t2)=false:=by simpa using h2
     rw[show decide (t1=t2)=false by simpa using h2,Bool.false_or]
     clear h2 h1
     by_cases h34:t3=t4
     ·subst h34
      go_enter Try.func25,Try.ntmps25
      go_wp2_with fail
      first|refine wp_name (fun W hW=> ?_)|refine calls_name (fun W hW=> ?_)
      have HW:Hid (Below w.heap.size w W):=Lib.hid (by rw[←hW];repeat (first|exact Below.refl _ _|refine below_alloc ?_))
      have HWs:Hid (W.heap.size=w.heap.size+1+1+1+1):=Lib.hid (by rw[←hW];simp)
      have HBW:Hid (W.heap.size≤W.heap.size):=Lib.hid (by have:=HWs.out;omega)
      have HC:=fun(W1:World) (hb:Below (W.heap.size) W W1)=>Lib.hid (show W1.cell? ⟨w.heap.size,0,none⟩=some (.int .i64 a.x)∧W1.cell? ⟨w.heap.size,1,none⟩=some (.int .i64 a.y)∧W1.cell? ⟨w.heap.size+1,0,none⟩=some (.int .i64 b.x)∧W1.cell? ⟨w.heap.size+1,1,none⟩=some (.int .i64 b.y)∧W1.cell? ⟨w.heap.size+1+1,0,none⟩=some (.int .i64 c.x)∧W1.cell? ⟨w.heap.size+1+1,1,none⟩=some (.int .i64 c.y)∧W1.cell? ⟨w.heap.size+1+1+1,0,none⟩=some (.int .i64 d.x)∧W1.cell? ⟨w.heap.size+1+1+1,1,none⟩=some (.int .i64 d.y) from by exact⟨(hb.cell (p:=⟨w.heap.size,0,none⟩) (by show w.heap.size<W.heap.size;have:=HWs.out;omega)).trans (by rw[←hW];clear hW;go_simp),(hb.cell (p:=⟨w.heap.size,1,none⟩) (by show w.heap.size<W.heap.size;have:=HWs.out;omega)).trans (by rw[←hW];clear hW;go_simp),(hb.cell (p:=⟨w.heap.size+1,0,none⟩) (by show w.heap.size+1<W.heap.size;have:=HWs.out;omega)).trans (by rw[←hW];clear hW;go_simp),(hb.cell (p:=⟨w.heap.size+1,1,none⟩) (by show w.heap.size+1<W.heap.size;have:=HWs.out;omega)).trans (by rw[←hW];clear hW;go_simp),(hb.cell (p:=⟨w.heap.size+1+1,0,none⟩) (by show w.heap.size+1+1<W.heap.size;have:=HWs.out;omega)).trans (by rw[←hW];clear hW;go_simp),(hb.cell (p:=⟨w.heap.size+1+1,1,none⟩) (by show w.heap.size+1+1<W.heap.size;have:=HWs.out;omega)).trans (by rw[←hW];clear hW;go_simp),(hb.cell (p:=⟨w.heap.size+1+1+1,0,none⟩) (by show w.heap.size+1+1+1<W.heap.size;have:=HWs.out;omega)).trans (by rw[←hW];clear hW;go_simp),(hb.cell (p:=⟨w.heap.size+1+1+1,1,none⟩) (by show w.heap.size+1+1+1<W.heap.size;have:=HWs.out;omega)).trans (by rw[←hW];clear hW;go_simp)⟩)
      have HB:=Lib.hid (Below.refl (W.heap.size) W)
      clear hW
      obtain⟨q88_0,q88_1,q88_2,q88_3,q88_4,q88_5,q88_6,q88_7⟩:=(HC _ HB.out).out
      have r88_0:=Nat.lt_of_lt_of_le (show w.heap.size<W.heap.size by have:=HWs.out;omega) HB.out.size
      have r88_1:=Nat.lt_of_lt_of_le (show w.heap.size+1<W.heap.size by have:=HWs.out;omega) HB.out.size
      have r88_2:=Nat.lt_of_lt_of_le (show w.heap.size+1+1<W.heap.size by have:=HWs.out;omega) HB.out.size
      have r88_3:=Nat.lt_of_lt_of_le (show w.heap.size+1+1+1<W.heap.size by have:=HWs.out;omega) HB.out.size
      refine((T1 _).out).mono ?_
      rintro e w89 ⟨rfl,hb89⟩
      have HB:=Lib.hid (below_next (below_next HB.out (Nat.le_trans HBW.out HB.out.size) (by repeat (first|exact Below.refl _ _|refine below_alloc ?_))) (by first|exact(Nat.le_trans HBW.out HB.out.size)|(simp;done)|(have h1:=HBW.out;have h2:=HB.out.size;simp;omega)) hb89)
      clear q88_0 q88_1 q88_2 q88_3 q88_4 q88_5 q88_6 q88_7 r88_0 r88_1 r88_2 r88_3
      obtain⟨q89_0,q89_1,q89_2,q89_3,q89_4,q89_5,q89_6,q89_7⟩:=(HC _ HB.out).out
      clear hb89
      have r89_0:=Nat.lt_of_lt_of_le (show w.heap.size<W.heap.size by have:=HWs.out;omega) HB.out.size
      have r89_1:=Nat.lt_of_lt_of_le (show w.heap.size+1<W.heap.size by have:=HWs.out;omega) HB.out.size
      have r89_2:=Nat.lt_of_lt_of_le (show w.heap.size+1+1<W.heap.size by have:=HWs.out;omega) HB.out.size
      have r89_3:=Nat.lt_of_lt_of_le (show w.heap.size+1+1+1<W.heap.size by have:=HWs.out;omega) HB.out.size
      go_wp2_with fail
      refine wp_name (fun c90 hc90=> ?_)
      have HB:=Lib.hid (below_name (below_next HB.out (Nat.le_trans HBW.out HB.out.size) (by repeat (first|exact Below.refl _ _|refine below_alloc ?_))) hc90)
      clear hc90
      have x90_0:=fun(x:Later c90)=>(HC _ (below_next HB.out (Nat.le_trans HBW.out HB.out.size) x.2)).out.1
      have x90_1:=fun(x:Later c90)=>(HC _ (below_next HB.out (Nat.le_trans HBW.out HB.out.size) x.2)).out.2.1
      have x90_2:=fun(x:Later c90)=>(HC _ (below_next HB.out (Nat.le_trans HBW.out HB.out.size) x.2)).out.2.2.1
      have x90_3:=fun(x:Later c90)=>(HC _ (below_next HB.out (Nat.le_trans HBW.out HB.out.size) x.2)).out.2.2.2.1
      have x90_4:=fun(x:Later c90)=>(HC _ (below_next HB.out (Nat.le_trans HBW.out HB.out.size) x.2)).out.2.2.2.2.1
      have x90_5:=fun(x:Later c90)=>(HC _ (below_next HB.out (Nat.le_trans HBW.out HB.out.size) x.2)).out.2.2.2.2.2.1
      have x90_6:=fun(x:Later c90)=>(HC _ (below_next HB.out (Nat.le_trans HBW.out HB.out.size) x.2)).out.2.2.2.2.2.2.1
      have x90_7:=fun(x:Later c90)=>(HC _ (below_next HB.out (Nat.le_trans HBW.out HB.out.size) x.2)).out.2.2.2.2.2.2.2
      refine wp_region_later (by kernel_rfl) (by kernel_rfl) ?_
      repeat (first|go_big_quiet_step (((first|(go_at_call 52;with_reducible refine Later.call (T1 _).out)|(go_at_call 52;with_reducible refine Later.call (T2 _).out)|(go_at_call 52;with_reducible refine Later.call (T3 _).out)|(go_at_call 52;with_reducible refine Later.call (T4 _).out))))|quiet_step (((first|(go_at_call 52;with_reducible refine Later.call (T1 _).out)|(go_at_call 52;with_reducible refine Later.call (T2 _).out)|(go_at_call 52;with_reducible refine Later.call (T3 _).out)|(go_at_call 52;with_reducible refine Later.call (T4 _).out)))))
      refine wpQuiet_nil ?_
      intro w90 hw90
      have hb90:=later_below hw90
      clear hw90
      have HB:=Lib.hid (below_next HB.out (Nat.le_trans HBW.out HB.out.size) hb90)
      clear x90_0 x90_1 x90_2 x90_3 x90_4 x90_5 x90_6 x90_7
      clear q89_0 q89_1 q89_2 q89_3 q89_4 q89_5 q89_6 q89_7 r89_0 r89_1 r89_2 r89_3
      obtain⟨q90_0,q90_1,q90_2,q90_3,q90_4,q90_5,q90_6,q90_7⟩:=(HC _ HB.out).out
      clear hb90
      have r90_0:=Nat.lt_of_lt_of_le (show w.heap.size<W.heap.size by have:=HWs.out;omega) HB.out.size
      have r90_1:=Nat.lt_of_lt_of_le (show w.heap.size+1<W.heap.size by have:=HWs.out;omega) HB.out.size
      have r90_2:=Nat.lt_of_lt_of_le (show w.heap.size+1+1<W.heap.size by have:=HWs.out;omega) HB.out.size
      have r90_3:=Nat.lt_of_lt_of_le (show w.heap.size+1+1+1<W.heap.size by have:=HWs.out;omega) HB.out.size
      go_wp2_with fail
      go_ret
      exact⟨rfl,(HW.out.trans (HB.out.mono (by have:=HWs.out;omega)))⟩
     ·have hw:(t3==t4)=false:=by simpa using h34
      rw[show decide (t3=t4)=false by simpa using h34]
      clear h34
      go_enter Try.func25,Try.ntmps25
      go_wp2_with fail
      first|refine wp_name (fun W hW=> ?_)|refine calls_name (fun W hW=> ?_)
      have HW:Hid (Below w.heap.size w W):=Lib.hid (by rw[←hW];repeat (first|exact Below.refl _ _|refine below_alloc ?_))
      have HWs:Hid (W.heap.size=w.heap.size+1+1+1+1):=Lib.hid (by rw[←hW];simp)
      have HBW:Hid (W.heap.size≤W.heap.size):=Lib.hid (by have:=HWs.out;omega)
      have HC:=fun(W1:World) (hb:Below (W.heap.size) W W1)=>Lib.hid (show W1.cell? ⟨w.heap.size,0,none⟩=some (.int .i64 a.x)∧W1.cell? ⟨w.heap.size,1,none⟩=some (.int .i64 a.y)∧W1.cell? ⟨w.heap.size+1,0,none⟩=some (.int .i64 b.x)∧W1.cell? ⟨w.heap.size+1,1,none⟩=some (.int .i64 b.y)∧W1.cell? ⟨w.heap.size+1+1,0,none⟩=some (.int .i64 c.x)∧W1.cell? ⟨w.heap.size+1+1,1,none⟩=some (.int .i64 c.y)∧W1.cell? ⟨w.heap.size+1+1+1,0,none⟩=some (.int .i64 d.x)∧W1.cell? ⟨w.heap.size+1+1+1,1,none⟩=some (.int .i64 d.y) from by exact⟨(hb.cell (p:=⟨w.heap.size,0,none⟩) (by show w.heap.size<W.heap.size;have:=HWs.out;omega)).trans (by rw[←hW];clear hW;go_simp),(hb.cell (p:=⟨w.heap.size,1,none⟩) (by show w.heap.size<W.heap.size;have:=HWs.out;omega)).trans (by rw[←hW];clear hW;go_simp),(hb.cell (p:=⟨w.heap.size+1,0,none⟩) (by show w.heap.size+1<W.heap.size;have:=HWs.out;omega)).trans (by rw[←hW];clear hW;go_simp),(hb.cell (p:=⟨w.heap.size+1,1,none⟩) (by show w.heap.size+1<W.heap.size;have:=HWs.out;omega)).trans (by rw[←hW];clear hW;go_simp),(hb.cell (p:=⟨w.heap.size+1+1,0,none⟩) (by show w.heap.size+1+1<W.heap.size;have:=HWs.out;omega)).trans (by rw[←hW];clear hW;go_simp),(hb.cell (p:=⟨w.heap.size+1+1,1,none⟩) (by show w.heap.size+1+1<W.heap.size;have:=HWs.out;omega)).trans (by rw[←hW];clear hW;go_simp),(hb.cell (p:=⟨w.heap.size+1+1+1,0,none⟩) (by show w.heap.size+1+1+1<W.heap.size;have:=HWs.out;omega)).trans (by rw[←hW];clear hW;go_simp),(hb.cell (p:=⟨w.heap.size+1+1+1,1,none⟩) (by show w.heap.size+1+1+1<W.heap.size;have:=HWs.out;omega)).trans (by rw[←hW];clear hW;go_simp)⟩)
      have HB:=Lib.hid (Below.refl (W.heap.size) W)
      clear hW
      obtain⟨q92_0,q92_1,q92_2,q92_3,q92_4,q92_5,q92_6,q92_7⟩:=(HC _ HB.out).out
      have r92_0:=Nat.lt_of_lt_of_le (show w.heap.size<W.heap.size by have:=HWs.out;omega) HB.out.size
      have r92_1:=Nat.lt_of_lt_of_le (show w.heap.size+1<W.heap.size by have:=HWs.out;omega) HB.out.size
      have r92_2:=Nat.lt_of_lt_of_le (show w.heap.size+1+1<W.heap.size by have:=HWs.out;omega) HB.out.size
      have r92_3:=Nat.lt_of_lt_of_le (show w.heap.size+1+1+1<W.heap.size by have:=HWs.out;omega) HB.out.size
      refine((T1 _).out).mono ?_
      rintro e w93 ⟨rfl,hb93⟩
      have HB:=Lib.hid (below_next (below_next HB.out (Nat.le_trans HBW.out HB.out.size) (by repeat (first|exact Below.refl _ _|refine below_alloc ?_))) (by first|exact(Nat.le_trans HBW.out HB.out.size)|(simp;done)|(have h1:=HBW.out;have h2:=HB.out.size;simp;omega)) hb93)
      clear q92_0 q92_1 q92_2 q92_3 q92_4 q92_5 q92_6 q92_7 r92_0 r92_1 r92_2 r92_3
      obtain⟨q93_0,q93_1,q93_2,q93_3,q93_4,q93_5,q93_6,q93_7⟩:=(HC _ HB.out).out
      clear hb93
      have r93_0:=Nat.lt_of_lt_of_le (show w.heap.size<W.heap.size by have:=HWs.out;omega) HB.out.size
      have r93_1:=Nat.lt_of_lt_of_le (show w.heap.size+1<W.heap.size by have:=HWs.out;omega) HB.out.size
      have r93_2:=Nat.lt_of_lt_of_le (show w.heap.size+1+1<W.heap.size by have:=HWs.out;omega) HB.out.size
      have r93_3:=Nat.lt_of_lt_of_le (show w.heap.size+1+1+1<W.heap.size by have:=HWs.out;omega) HB.out.size
      go_wp2_with fail
      refine wp_name (fun c94 hc94=> ?_)
      have HB:=Lib.hid (below_name (below_next HB.out (Nat.le_trans HBW.out HB.out.size) (by repeat (first|exact Below.refl _ _|refine below_alloc ?_))) hc94)
      clear hc94
      have x94_0:=fun(x:Later c94)=>(HC _ (below_next HB.out (Nat.le_trans HBW.out HB.out.size) x.2)).out.1
      have x94_1:=fun(x:Later c94)=>(HC _ (below_next HB.out (Nat.le_trans HBW.out HB.out.size) x.2)).out.2.1
      have x94_2:=fun(x:Later c94)=>(HC _ (below_next HB.out (Nat.le_trans HBW.out HB.out.size) x.2)).out.2.2.1
      have x94_3:=fun(x:Later c94)=>(HC _ (below_next HB.out (Nat.le_trans HBW.out HB.out.size) x.2)).out.2.2.2.1
      have x94_4:=fun(x:Later c94)=>(HC _ (below_next HB.out (Nat.le_trans HBW.out HB.out.size) x.2)).out.2.2.2.2.1
      have x94_5:=fun(x:Later c94)=>(HC _ (below_next HB.out (Nat.le_trans HBW.out HB.out.size) x.2)).out.2.2.2.2.2.1
      have x94_6:=fun(x:Later c94)=>(HC _ (below_next HB.out (Nat.le_trans HBW.out HB.out.size) x.2)).out.2.2.2.2.2.2.1
      have x94_7:=fun(x:Later c94)=>(HC _ (below_next HB.out (Nat.le_trans HBW.out HB.out.size) x.2)).out.2.2.2.2.2.2.2
      refine wp_region_later (by kernel_rfl) (by kernel_rfl) ?_
      repeat (first|go_big_quiet_step (((first|(go_at_call 52;with_reducible refine Later.call (T1 _).out)|(go_at_call 52;with_reducible refine Later.call (T2 _).out)|(go_at_call 52;with_reducible refine Later.call (T3 _).out)|(go_at_call 52;with_reducible refine Later.call (T4 _).out))))|quiet_step (((first|(go_at_call 52;with_reducible refine Later.call (T1 _).out)|(go_at_call 52;with_reducible refine Later.call (T2 _).out)|(go_at_call 52;with_reducible refine Later.call (T3 _).out)|(go_at_call 52;with_reducible refine Later.call (T4 _).out)))))
      refine wpQuiet_nil ?_
      intro w94 hw94
      have hb94:=later_below hw94
      clear hw94
      have HB:=Lib.hid (below_next HB.out (Nat.le_trans HBW.out HB.out.size) hb94)
      clear x94_0 x94_1 x94_2 x94_3 x94_4 x94_5 x94_6 x94_7
      clear q93_0 q93_1 q93_2 q93_3 q93_4 q93_5 q93_6 q93_7 r93_0 r93_1 r93_2 r93_3
      obtain⟨q94_0,q94_1,q94_2,q94_3,q94_4,q94_5,q94_6,q94_7⟩:=(HC _ HB.out).out
      clear hb94
      have r94_0:=Nat.lt_of_lt_of_le (show w.heap.size<W.heap.size by have:=HWs.out;omega) HB.out.size
      have r94_1:=Nat.lt_of_lt_of_le (show w.heap.size+1<W.heap.size by have:=HWs.out;omega) HB.out.size
      have r94_2:=Nat.lt_of_lt_of_le (show w.heap.size+1+1<W.heap.size by have:=HWs.out;omega) HB.out.size
      have r94_3:=Nat.lt_of_lt_of_le (show w.heap.size+1+1+1<W.heap.size by have:=HWs.out;omega) HB.out.size
      go_wp2_with fail
      go_ret
      exact⟨rfl,(HW.out.trans (HB.out.mono (by have:=HWs.out;omega)))⟩
end Go.Proofs.Ythopjhifepijiaa
