/- Lemmas on the way to the statement. -/
import Derived.Test.YthopjhifepijiaaJ16
import Derived.Test.YthopjhifepijiaaJ17
import Derived.Test.YthopjhifepijiaaJ21
set_option linter.unusedSimpArgs false
set_option linter.unusedVariables false
namespace Go.Proofs.Ythopjhifepijiaa
open Go.RowKit Go.Joins
theorem eq_place (x:Int × Int × Int) (w:World):(binOp .eql 65 (.agg #[.int .i64 x.1, .int .i64 x.2.1, .int .i64 x.2.2]) (.agg #[.int .i64 x.1, .int .i64 x.2.1, .int .i64 x.2.2])).run Try.prog w= .ok (.bool true) w:=by
 simp[go_sem]
noncomputable def partP (p:PL) (q:Pt):Int:=1+aroundP ((orsP p).map (ouOf fun id=>pieceR p id+1)) q 0
theorem Find_one {w:World} {B vn vc en ec:Nat} {va ea:Option Addr} {p:PL} {q:Pt} (r:RightP p) (hq:inB q=true) (hv:VsIn w B va vn p.vs) (he:EsIn w B ea en p.es) (hB:B≤w.heap.size) (hec:en≤ec) (hfit:FitPL p):
  Calls Try.prog 27 #[.agg #[.slice va vn vc, .slice ea en ec], .agg #[.int .i64 q.x, .int .i64 q.y]] w fun e w'=>e= .returned (plcV (findP p q (partP p q)) 0)∧Below w.heap.size w w':=by
 refine(Find_any (vc:=vc) r hq hv he hB hec hfit).mono fun e w' ⟨g,hg,hg0,he,hb⟩=>⟨?_,hb⟩
 rw[he]
 unfold partP
 rw[r.finds_agree hg0 r.pieceR_one.2 q]
theorem Free.lone {p:PL} {a b:Pt} (f:Free p a b) (r:RightP p) {q:Pt} (hq:q=a∨q=b) (k:Int):findP p q k=(0,0,k):=by
 have hv:fndV p q=none:=by
  unfold fndV
  rw[List.find?_eq_none]
  intro v hv
  simp only[decide_eq_true_eq]
  intro e
  have:=f.vs v hv
  rw[e] at this
  rcases hq with rfl|rfl
  ·rw[wth_l] at this;cases this
  ·rw[wth_r] at this;cases this
 have he:fndE p q=none:=by
  unfold fndE
  rw[List.find?_eq_none]
  intro e he
  have hm:(⟨e.id,false⟩:Hf)∈halvesE p.es:=mem_halves.2 ⟨e,he,rfl⟩
  have:=f.untouched r hm hq
  rw[endsP_line (mem_known hm)]
  simp only[Bool.or_eq_false_iff] at this
  rw[this.2.2]
  decide
 unfold findP
 rw[hv,he]
theorem Free.part {p:PL} {a b:Pt} (f:Free p a b) (r:RightP p):findP p a (partP p a)=findP p b (partP p b):=by
 rw[f.lone r (.inl rfl),f.lone r (.inr rfl)]
 unfold partP
 rw[f.finds r]
set_option maxRecDepth 100000 in
set_option maxHeartbeats 8000000 in
theorem realmWalks_walk {w:World} {B vn vc en ec:Nat} {va ea:Option Addr} {p:PL} (a b:Pt) (hv:VsIn w B va vn p.vs) (he:EsIn w B ea en p.es) (hB:B≤w.heap.size) (hec:en≤ec) (hfit:FitPL p):
  Calls Try.prog 5 #[.agg #[.slice va vn vc, .slice ea en ec], .agg #[.int .i64 a.x, .int .i64 a.y], .agg #[.int .i64 b.x, .int .i64 b.y]] w fun e w'=>e= .returned (.bool true)∧Below w.heap.size w w':=by
 have HAW:=fun W=>Lib.hid (awake17_any W)
 have HFW:=fun W=>Lib.hid (few17_any W va ea vn vc en ec)
 have HRT:=fun(W:World) (hb:Below w.heap.size w W)=>Lib.hid (r15right_any (w:=W) (vc:=vc) (hv.below (hb.mono hB)) (he.below (hb.mono hB)) (Nat.le_trans hB hb.size) hec)
 have HIA:=fun W=>Lib.hid (r5in_any a W)
 have HIB:=fun W=>Lib.hid (r5in_any b W)
 by_cases hf:vn≤30∧en≤30
 rotate_left
 ·rw[decide_eq_false hf] at HFW
  clear hv he hf
  go_enter Try.func5,Try.ntmps5
  go_wp2_with fail
  first|refine wp_name (fun W hW=> ?_)|refine calls_name (fun W hW=> ?_)
  have HW:Hid (Below w.heap.size w W):=Lib.hid (by rw[←hW];repeat (first|exact Below.refl _ _|refine below_alloc ?_))
  have HWs:Hid (W.heap.size=w.heap.size+1+1+1):=Lib.hid (by rw[←hW];simp)
  have HBW:Hid (W.heap.size≤W.heap.size):=Lib.hid (by have:=HWs.out;omega)
  have HC:=fun(W1:World) (hb:Below (W.heap.size) W W1)=>Lib.hid (show W1.cell? ⟨w.heap.size,0,none⟩=some (.slice va vn vc)∧W1.cell? ⟨w.heap.size,1,none⟩=some (.slice ea en ec)∧W1.cell? ⟨w.heap.size+1,0,none⟩=some (.int .i64 a.x)∧W1.cell? ⟨w.heap.size+1,1,none⟩=some (.int .i64 a.y)∧W1.cell? ⟨w.heap.size+1+1,0,none⟩=some (.int .i64 b.x)∧W1.cell? ⟨w.heap.size+1+1,1,none⟩=some (.int .i64 b.y) from by exact⟨(hb.cell (p:=⟨w.heap.size,0,none⟩) (by show w.heap.size<W.heap.size;have:=HWs.out;omega)).trans (by rw[←hW];clear hW;go_simp),(hb.cell (p:=⟨w.heap.size,1,none⟩) (by show w.heap.size<W.heap.size;have:=HWs.out;omega)).trans (by rw[←hW];clear hW;go_simp),(hb.cell (p:=⟨w.heap.size+1,0,none⟩) (by show w.heap.size+1<W.heap.size;have:=HWs.out;omega)).trans (by rw[←hW];clear hW;go_simp),(hb.cell (p:=⟨w.heap.size+1,1,none⟩) (by show w.heap.size+1<W.heap.size;have:=HWs.out;omega)).trans (by rw[←hW];clear hW;go_simp),(hb.cell (p:=⟨w.heap.size+1+1,0,none⟩) (by show w.heap.size+1+1<W.heap.size;have:=HWs.out;omega)).trans (by rw[←hW];clear hW;go_simp),(hb.cell (p:=⟨w.heap.size+1+1,1,none⟩) (by show w.heap.size+1+1<W.heap.size;have:=HWs.out;omega)).trans (by rw[←hW];clear hW;go_simp)⟩)
  have HB:=Lib.hid (Below.refl (W.heap.size) W)
  clear hW
  obtain⟨q1_0,q1_1,q1_2,q1_3,q1_4,q1_5⟩:=(HC _ HB.out).out
  have r1_0:=Nat.lt_of_lt_of_le (show w.heap.size<W.heap.size by have:=HWs.out;omega) HB.out.size
  have r1_1:=Nat.lt_of_lt_of_le (show w.heap.size+1<W.heap.size by have:=HWs.out;omega) HB.out.size
  have r1_2:=Nat.lt_of_lt_of_le (show w.heap.size+1+1<W.heap.size by have:=HWs.out;omega) HB.out.size
  refine((HAW _).out).mono ?_
  rintro e w1 ⟨rfl,hb2⟩
  have HB:=Lib.hid (below_next (below_next HB.out (Nat.le_trans HBW.out HB.out.size) (by repeat (first|exact Below.refl _ _|refine below_alloc ?_))) (by first|exact(Nat.le_trans HBW.out HB.out.size)|(simp;done)|(have h1:=HBW.out;have h2:=HB.out.size;simp;omega)) hb2)
  clear q1_0 q1_1 q1_2 q1_3 q1_4 q1_5 r1_0 r1_1 r1_2
  obtain⟨q2_0,q2_1,q2_2,q2_3,q2_4,q2_5⟩:=(HC _ HB.out).out
  clear hb2
  have r2_0:=Nat.lt_of_lt_of_le (show w.heap.size<W.heap.size by have:=HWs.out;omega) HB.out.size
  have r2_1:=Nat.lt_of_lt_of_le (show w.heap.size+1<W.heap.size by have:=HWs.out;omega) HB.out.size
  have r2_2:=Nat.lt_of_lt_of_le (show w.heap.size+1+1<W.heap.size by have:=HWs.out;omega) HB.out.size
  go_wp2_with fail
  refine((HFW _).out).mono ?_
  rintro e w2 ⟨rfl,hb3⟩
  have HB:=Lib.hid (below_next (below_next HB.out (Nat.le_trans HBW.out HB.out.size) (by repeat (first|exact Below.refl _ _|refine below_alloc ?_))) (by first|exact(Nat.le_trans HBW.out HB.out.size)|(simp;done)|(have h1:=HBW.out;have h2:=HB.out.size;simp;omega)) hb3)
  clear q2_0 q2_1 q2_2 q2_3 q2_4 q2_5 r2_0 r2_1 r2_2
  obtain⟨q3_0,q3_1,q3_2,q3_3,q3_4,q3_5⟩:=(HC _ HB.out).out
  clear hb3
  have r3_0:=Nat.lt_of_lt_of_le (show w.heap.size<W.heap.size by have:=HWs.out;omega) HB.out.size
  have r3_1:=Nat.lt_of_lt_of_le (show w.heap.size+1<W.heap.size by have:=HWs.out;omega) HB.out.size
  have r3_2:=Nat.lt_of_lt_of_le (show w.heap.size+1+1<W.heap.size by have:=HWs.out;omega) HB.out.size
  go_wp2_with fail
  refine((HAW _).out).mono ?_
  rintro e wz ⟨rfl,hb4⟩
  have HB:=Lib.hid (below_next (below_next HB.out (Nat.le_trans HBW.out HB.out.size) (by repeat (first|exact Below.refl _ _|refine below_alloc ?_))) (by first|exact(Nat.le_trans HBW.out HB.out.size)|(simp;done)|(have h1:=HBW.out;have h2:=HB.out.size;simp;omega)) hb4)
  clear q3_0 q3_1 q3_2 q3_3 q3_4 q3_5 r3_0 r3_1 r3_2
  obtain⟨q4_0,q4_1,q4_2,q4_3,q4_4,q4_5⟩:=(HC _ HB.out).out
  clear hb4
  have r4_0:=Nat.lt_of_lt_of_le (show w.heap.size<W.heap.size by have:=HWs.out;omega) HB.out.size
  have r4_1:=Nat.lt_of_lt_of_le (show w.heap.size+1<W.heap.size by have:=HWs.out;omega) HB.out.size
  have r4_2:=Nat.lt_of_lt_of_le (show w.heap.size+1+1<W.heap.size by have:=HWs.out;omega) HB.out.size
  go_wp2_with fail
  go_ret
  exact⟨rfl,(HW.out.trans (HB.out.mono (by have:=HWs.out;omega)))⟩
 rw[decide_eq_true hf] at HFW
 cases hrr:rightR p
 ·rw[hrr] at HRT
  clear hv he hf hrr
  go_enter Try.func5,Try.ntmps5
  go_wp2_with fail
  first|refine wp_name (fun W hW=> ?_)|refine calls_name (fun W hW=> ?_)
  have HW:Hid (Below w.heap.size w W):=Lib.hid (by rw[←hW];repeat (first|exact Below.refl _ _|refine below_alloc ?_))
  have HWs:Hid (W.heap.size=w.heap.size+1+1+1):=Lib.hid (by rw[←hW];simp)
  have HBW:Hid (W.heap.size≤W.heap.size):=Lib.hid (by have:=HWs.out;omega)
  have HC:=fun(W1:World) (hb:Below (W.heap.size) W W1)=>Lib.hid (show W1.cell? ⟨w.heap.size,0,none⟩=some (.slice va vn vc)∧W1.cell? ⟨w.heap.size,1,none⟩=some (.slice ea en ec)∧W1.cell? ⟨w.heap.size+1,0,none⟩=some (.int .i64 a.x)∧W1.cell? ⟨w.heap.size+1,1,none⟩=some (.int .i64 a.y)∧W1.cell? ⟨w.heap.size+1+1,0,none⟩=some (.int .i64 b.x)∧W1.cell? ⟨w.heap.size+1+1,1,none⟩=some (.int .i64 b.y) from by exact⟨(hb.cell (p:=⟨w.heap.size,0,none⟩) (by show w.heap.size<W.heap.size;have:=HWs.out;omega)).trans (by rw[←hW];clear hW;go_simp),(hb.cell (p:=⟨w.heap.size,1,none⟩) (by show w.heap.size<W.heap.size;have:=HWs.out;omega)).trans (by rw[←hW];clear hW;go_simp),(hb.cell (p:=⟨w.heap.size+1,0,none⟩) (by show w.heap.size+1<W.heap.size;have:=HWs.out;omega)).trans (by rw[←hW];clear hW;go_simp),(hb.cell (p:=⟨w.heap.size+1,1,none⟩) (by show w.heap.size+1<W.heap.size;have:=HWs.out;omega)).trans (by rw[←hW];clear hW;go_simp),(hb.cell (p:=⟨w.heap.size+1+1,0,none⟩) (by show w.heap.size+1+1<W.heap.size;have:=HWs.out;omega)).trans (by rw[←hW];clear hW;go_simp),(hb.cell (p:=⟨w.heap.size+1+1,1,none⟩) (by show w.heap.size+1+1<W.heap.size;have:=HWs.out;omega)).trans (by rw[←hW];clear hW;go_simp)⟩)
  have HB:=Lib.hid (Below.refl (W.heap.size) W)
  clear hW
  obtain⟨q6_0,q6_1,q6_2,q6_3,q6_4,q6_5⟩:=(HC _ HB.out).out
  have r6_0:=Nat.lt_of_lt_of_le (show w.heap.size<W.heap.size by have:=HWs.out;omega) HB.out.size
  have r6_1:=Nat.lt_of_lt_of_le (show w.heap.size+1<W.heap.size by have:=HWs.out;omega) HB.out.size
  have r6_2:=Nat.lt_of_lt_of_le (show w.heap.size+1+1<W.heap.size by have:=HWs.out;omega) HB.out.size
  refine((HAW _).out).mono ?_
  rintro e w1 ⟨rfl,hb7⟩
  have HB:=Lib.hid (below_next (below_next HB.out (Nat.le_trans HBW.out HB.out.size) (by repeat (first|exact Below.refl _ _|refine below_alloc ?_))) (by first|exact(Nat.le_trans HBW.out HB.out.size)|(simp;done)|(have h1:=HBW.out;have h2:=HB.out.size;simp;omega)) hb7)
  clear q6_0 q6_1 q6_2 q6_3 q6_4 q6_5 r6_0 r6_1 r6_2
  obtain⟨q7_0,q7_1,q7_2,q7_3,q7_4,q7_5⟩:=(HC _ HB.out).out
  clear hb7
  have r7_0:=Nat.lt_of_lt_of_le (show w.heap.size<W.heap.size by have:=HWs.out;omega) HB.out.size
  have r7_1:=Nat.lt_of_lt_of_le (show w.heap.size+1<W.heap.size by have:=HWs.out;omega) HB.out.size
  have r7_2:=Nat.lt_of_lt_of_le (show w.heap.size+1+1<W.heap.size by have:=HWs.out;omega) HB.out.size
  go_wp2_with fail
  refine((HFW _).out).mono ?_
  rintro e w2 ⟨rfl,hb8⟩
  have HB:=Lib.hid (below_next (below_next HB.out (Nat.le_trans HBW.out HB.out.size) (by repeat (first|exact Below.refl _ _|refine below_alloc ?_))) (by first|exact(Nat.le_trans HBW.out HB.out.size)|(simp;done)|(have h1:=HBW.out;have h2:=HB.out.size;simp;omega)) hb8)
  clear q7_0 q7_1 q7_2 q7_3 q7_4 q7_5 r7_0 r7_1 r7_2
  obtain⟨q8_0,q8_1,q8_2,q8_3,q8_4,q8_5⟩:=(HC _ HB.out).out
  clear hb8
  have r8_0:=Nat.lt_of_lt_of_le (show w.heap.size<W.heap.size by have:=HWs.out;omega) HB.out.size
  have r8_1:=Nat.lt_of_lt_of_le (show w.heap.size+1<W.heap.size by have:=HWs.out;omega) HB.out.size
  have r8_2:=Nat.lt_of_lt_of_le (show w.heap.size+1+1<W.heap.size by have:=HWs.out;omega) HB.out.size
  go_wp2_with fail
  refine((HRT _ (HW.out.trans (HB.out.mono HW.out.size))).out).mono ?_
  rintro e w3 ⟨rfl,hb9⟩
  have HB:=Lib.hid (below_next (below_next HB.out (Nat.le_trans HBW.out HB.out.size) (by repeat (first|exact Below.refl _ _|refine below_alloc ?_))) (by first|exact(Nat.le_trans HBW.out HB.out.size)|(simp;done)|(have h1:=HBW.out;have h2:=HB.out.size;simp;omega)) hb9)
  clear q8_0 q8_1 q8_2 q8_3 q8_4 q8_5 r8_0 r8_1 r8_2
  obtain⟨q9_0,q9_1,q9_2,q9_3,q9_4,q9_5⟩:=(HC _ HB.out).out
  clear hb9
  have r9_0:=Nat.lt_of_lt_of_le (show w.heap.size<W.heap.size by have:=HWs.out;omega) HB.out.size
  have r9_1:=Nat.lt_of_lt_of_le (show w.heap.size+1<W.heap.size by have:=HWs.out;omega) HB.out.size
  have r9_2:=Nat.lt_of_lt_of_le (show w.heap.size+1+1<W.heap.size by have:=HWs.out;omega) HB.out.size
  go_wp2_with fail
  refine((HAW _).out).mono ?_
  rintro e wz ⟨rfl,hb10⟩
  have HB:=Lib.hid (below_next (below_next HB.out (Nat.le_trans HBW.out HB.out.size) (by repeat (first|exact Below.refl _ _|refine below_alloc ?_))) (by first|exact(Nat.le_trans HBW.out HB.out.size)|(simp;done)|(have h1:=HBW.out;have h2:=HB.out.size;simp;omega)) hb10)
  clear q9_0 q9_1 q9_2 q9_3 q9_4 q9_5 r9_0 r9_1 r9_2
  obtain⟨q10_0,q10_1,q10_2,q10_3,q10_4,q10_5⟩:=(HC _ HB.out).out
  clear hb10
  have r10_0:=Nat.lt_of_lt_of_le (show w.heap.size<W.heap.size by have:=HWs.out;omega) HB.out.size
  have r10_1:=Nat.lt_of_lt_of_le (show w.heap.size+1<W.heap.size by have:=HWs.out;omega) HB.out.size
  have r10_2:=Nat.lt_of_lt_of_le (show w.heap.size+1+1<W.heap.size by have:=HWs.out;omega) HB.out.size
  go_wp2_with fail
  go_ret
  exact⟨rfl,(HW.out.trans (HB.out.mono (by have:=HWs.out;omega)))⟩
 have HRP:=Lib.hid (rightR_iff.1 hrr)
 rw[hrr] at HRT
 clear hrr
 cases hia:inB a
 ·rw[hia] at HIA
  clear hv he hf hia
  go_enter Try.func5,Try.ntmps5
  go_wp2_with fail
  first|refine wp_name (fun W hW=> ?_)|refine calls_name (fun W hW=> ?_)
  have HW:Hid (Below w.heap.size w W):=Lib.hid (by rw[←hW];repeat (first|exact Below.refl _ _|refine below_alloc ?_))
  have HWs:Hid (W.heap.size=w.heap.size+1+1+1):=Lib.hid (by rw[←hW];simp)
  have HBW:Hid (W.heap.size≤W.heap.size):=Lib.hid (by have:=HWs.out;omega)
  have HC:=fun(W1:World) (hb:Below (W.heap.size) W W1)=>Lib.hid (show W1.cell? ⟨w.heap.size,0,none⟩=some (.slice va vn vc)∧W1.cell? ⟨w.heap.size,1,none⟩=some (.slice ea en ec)∧W1.cell? ⟨w.heap.size+1,0,none⟩=some (.int .i64 a.x)∧W1.cell? ⟨w.heap.size+1,1,none⟩=some (.int .i64 a.y)∧W1.cell? ⟨w.heap.size+1+1,0,none⟩=some (.int .i64 b.x)∧W1.cell? ⟨w.heap.size+1+1,1,none⟩=some (.int .i64 b.y) from by exact⟨(hb.cell (p:=⟨w.heap.size,0,none⟩) (by show w.heap.size<W.heap.size;have:=HWs.out;omega)).trans (by rw[←hW];clear hW;go_simp),(hb.cell (p:=⟨w.heap.size,1,none⟩) (by show w.heap.size<W.heap.size;have:=HWs.out;omega)).trans (by rw[←hW];clear hW;go_simp),(hb.cell (p:=⟨w.heap.size+1,0,none⟩) (by show w.heap.size+1<W.heap.size;have:=HWs.out;omega)).trans (by rw[←hW];clear hW;go_simp),(hb.cell (p:=⟨w.heap.size+1,1,none⟩) (by show w.heap.size+1<W.heap.size;have:=HWs.out;omega)).trans (by rw[←hW];clear hW;go_simp),(hb.cell (p:=⟨w.heap.size+1+1,0,none⟩) (by show w.heap.size+1+1<W.heap.size;have:=HWs.out;omega)).trans (by rw[←hW];clear hW;go_simp),(hb.cell (p:=⟨w.heap.size+1+1,1,none⟩) (by show w.heap.size+1+1<W.heap.size;have:=HWs.out;omega)).trans (by rw[←hW];clear hW;go_simp)⟩)
  have HB:=Lib.hid (Below.refl (W.heap.size) W)
  clear hW
  obtain⟨q12_0,q12_1,q12_2,q12_3,q12_4,q12_5⟩:=(HC _ HB.out).out
  have r12_0:=Nat.lt_of_lt_of_le (show w.heap.size<W.heap.size by have:=HWs.out;omega) HB.out.size
  have r12_1:=Nat.lt_of_lt_of_le (show w.heap.size+1<W.heap.size by have:=HWs.out;omega) HB.out.size
  have r12_2:=Nat.lt_of_lt_of_le (show w.heap.size+1+1<W.heap.size by have:=HWs.out;omega) HB.out.size
  refine((HAW _).out).mono ?_
  rintro e w1 ⟨rfl,hb13⟩
  have HB:=Lib.hid (below_next (below_next HB.out (Nat.le_trans HBW.out HB.out.size) (by repeat (first|exact Below.refl _ _|refine below_alloc ?_))) (by first|exact(Nat.le_trans HBW.out HB.out.size)|(simp;done)|(have h1:=HBW.out;have h2:=HB.out.size;simp;omega)) hb13)
  clear q12_0 q12_1 q12_2 q12_3 q12_4 q12_5 r12_0 r12_1 r12_2
  obtain⟨q13_0,q13_1,q13_2,q13_3,q13_4,q13_5⟩:=(HC _ HB.out).out
  clear hb13
  have r13_0:=Nat.lt_of_lt_of_le (show w.heap.size<W.heap.size by have:=HWs.out;omega) HB.out.size
  have r13_1:=Nat.lt_of_lt_of_le (show w.heap.size+1<W.heap.size by have:=HWs.out;omega) HB.out.size
  have r13_2:=Nat.lt_of_lt_of_le (show w.heap.size+1+1<W.heap.size by have:=HWs.out;omega) HB.out.size
  go_wp2_with fail
  refine((HFW _).out).mono ?_
  rintro e w2 ⟨rfl,hb14⟩
  have HB:=Lib.hid (below_next (below_next HB.out (Nat.le_trans HBW.out HB.out.size) (by repeat (first|exact Below.refl _ _|refine below_alloc ?_))) (by first|exact(Nat.le_trans HBW.out HB.out.size)|(simp;done)|(have h1:=HBW.out;have h2:=HB.out.size;simp;omega)) hb14)
  clear q13_0 q13_1 q13_2 q13_3 q13_4 q13_5 r13_0 r13_1 r13_2
  obtain⟨q14_0,q14_1,q14_2,q14_3,q14_4,q14_5⟩:=(HC _ HB.out).out
  clear hb14
  have r14_0:=Nat.lt_of_lt_of_le (show w.heap.size<W.heap.size by have:=HWs.out;omega) HB.out.size
  have r14_1:=Nat.lt_of_lt_of_le (show w.heap.size+1<W.heap.size by have:=HWs.out;omega) HB.out.size
  have r14_2:=Nat.lt_of_lt_of_le (show w.heap.size+1+1<W.heap.size by have:=HWs.out;omega) HB.out.size
  go_wp2_with fail
  refine((HRT _ (HW.out.trans (HB.out.mono HW.out.size))).out).mono ?_
  rintro e w3 ⟨rfl,hb15⟩
  have HB:=Lib.hid (below_next (below_next HB.out (Nat.le_trans HBW.out HB.out.size) (by repeat (first|exact Below.refl _ _|refine below_alloc ?_))) (by first|exact(Nat.le_trans HBW.out HB.out.size)|(simp;done)|(have h1:=HBW.out;have h2:=HB.out.size;simp;omega)) hb15)
  clear q14_0 q14_1 q14_2 q14_3 q14_4 q14_5 r14_0 r14_1 r14_2
  obtain⟨q15_0,q15_1,q15_2,q15_3,q15_4,q15_5⟩:=(HC _ HB.out).out
  clear hb15
  have r15_0:=Nat.lt_of_lt_of_le (show w.heap.size<W.heap.size by have:=HWs.out;omega) HB.out.size
  have r15_1:=Nat.lt_of_lt_of_le (show w.heap.size+1<W.heap.size by have:=HWs.out;omega) HB.out.size
  have r15_2:=Nat.lt_of_lt_of_le (show w.heap.size+1+1<W.heap.size by have:=HWs.out;omega) HB.out.size
  go_wp2_with fail
  refine((HIA _).out).mono ?_
  rintro e w4 ⟨rfl,hb16⟩
  have HB:=Lib.hid (below_next (below_next HB.out (Nat.le_trans HBW.out HB.out.size) (by repeat (first|exact Below.refl _ _|refine below_alloc ?_))) (by first|exact(Nat.le_trans HBW.out HB.out.size)|(simp;done)|(have h1:=HBW.out;have h2:=HB.out.size;simp;omega)) hb16)
  clear q15_0 q15_1 q15_2 q15_3 q15_4 q15_5 r15_0 r15_1 r15_2
  obtain⟨q16_0,q16_1,q16_2,q16_3,q16_4,q16_5⟩:=(HC _ HB.out).out
  clear hb16
  have r16_0:=Nat.lt_of_lt_of_le (show w.heap.size<W.heap.size by have:=HWs.out;omega) HB.out.size
  have r16_1:=Nat.lt_of_lt_of_le (show w.heap.size+1<W.heap.size by have:=HWs.out;omega) HB.out.size
  have r16_2:=Nat.lt_of_lt_of_le (show w.heap.size+1+1<W.heap.size by have:=HWs.out;omega) HB.out.size
  go_wp2_with fail
  refine((HAW _).out).mono ?_
  rintro e wz ⟨rfl,hb17⟩
  have HB:=Lib.hid (below_next (below_next HB.out (Nat.le_trans HBW.out HB.out.size) (by repeat (first|exact Below.refl _ _|refine below_alloc ?_))) (by first|exact(Nat.le_trans HBW.out HB.out.size)|(simp;done)|(have h1:=HBW.out;have h2:=HB.out.size;simp;omega)) hb17)
  clear q16_0 q16_1 q16_2 q16_3 q16_4 q16_5 r16_0 r16_1 r16_2
  obtain⟨q17_0,q17_1,q17_2,q17_3,q17_4,q17_5⟩:=(HC _ HB.out).out
  clear hb17
  have r17_0:=Nat.lt_of_lt_of_le (show w.heap.size<W.heap.size by have:=HWs.out;omega) HB.out.size
  have r17_1:=Nat.lt_of_lt_of_le (show w.heap.size+1<W.heap.size by have:=HWs.out;omega) HB.out.size
  have r17_2:=Nat.lt_of_lt_of_le (show w.heap.size+1+1<W.heap.size by have:=HWs.out;omega) HB.out.size
  go_wp2_with fail
  go_ret
  exact⟨rfl,(HW.out.trans (HB.out.mono (by have:=HWs.out;omega)))⟩
 cases hib:inB b
 ·rw[hia] at HIA
  rw[hib] at HIB
  clear hv he hf hia hib
  go_enter Try.func5,Try.ntmps5
  go_wp2_with fail
  first|refine wp_name (fun W hW=> ?_)|refine calls_name (fun W hW=> ?_)
  have HW:Hid (Below w.heap.size w W):=Lib.hid (by rw[←hW];repeat (first|exact Below.refl _ _|refine below_alloc ?_))
  have HWs:Hid (W.heap.size=w.heap.size+1+1+1):=Lib.hid (by rw[←hW];simp)
  have HBW:Hid (W.heap.size≤W.heap.size):=Lib.hid (by have:=HWs.out;omega)
  have HC:=fun(W1:World) (hb:Below (W.heap.size) W W1)=>Lib.hid (show W1.cell? ⟨w.heap.size,0,none⟩=some (.slice va vn vc)∧W1.cell? ⟨w.heap.size,1,none⟩=some (.slice ea en ec)∧W1.cell? ⟨w.heap.size+1,0,none⟩=some (.int .i64 a.x)∧W1.cell? ⟨w.heap.size+1,1,none⟩=some (.int .i64 a.y)∧W1.cell? ⟨w.heap.size+1+1,0,none⟩=some (.int .i64 b.x)∧W1.cell? ⟨w.heap.size+1+1,1,none⟩=some (.int .i64 b.y) from by exact⟨(hb.cell (p:=⟨w.heap.size,0,none⟩) (by show w.heap.size<W.heap.size;have:=HWs.out;omega)).trans (by rw[←hW];clear hW;go_simp),(hb.cell (p:=⟨w.heap.size,1,none⟩) (by show w.heap.size<W.heap.size;have:=HWs.out;omega)).trans (by rw[←hW];clear hW;go_simp),(hb.cell (p:=⟨w.heap.size+1,0,none⟩) (by show w.heap.size+1<W.heap.size;have:=HWs.out;omega)).trans (by rw[←hW];clear hW;go_simp),(hb.cell (p:=⟨w.heap.size+1,1,none⟩) (by show w.heap.size+1<W.heap.size;have:=HWs.out;omega)).trans (by rw[←hW];clear hW;go_simp),(hb.cell (p:=⟨w.heap.size+1+1,0,none⟩) (by show w.heap.size+1+1<W.heap.size;have:=HWs.out;omega)).trans (by rw[←hW];clear hW;go_simp),(hb.cell (p:=⟨w.heap.size+1+1,1,none⟩) (by show w.heap.size+1+1<W.heap.size;have:=HWs.out;omega)).trans (by rw[←hW];clear hW;go_simp)⟩)
  have HB:=Lib.hid (Below.refl (W.heap.size) W)
  clear hW
  obtain⟨q19_0,q19_1,q19_2,q19_3,q19_4,q19_5⟩:=(HC _ HB.out).out
  have r19_0:=Nat.lt_of_lt_of_le (show w.heap.size<W.heap.size by have:=HWs.out;omega) HB.out.size
  have r19_1:=Nat.lt_of_lt_of_le (show w.heap.size+1<W.heap.size by have:=HWs.out;omega) HB.out.size
  have r19_2:=Nat.lt_of_lt_of_le (show w.heap.size+1+1<W.heap.size by have:=HWs.out;omega) HB.out.size
  refine((HAW _).out).mono ?_
  rintro e w1 ⟨rfl,hb20⟩
  have HB:=Lib.hid (below_next (below_next HB.out (Nat.le_trans HBW.out HB.out.size) (by repeat (first|exact Below.refl _ _|refine below_alloc ?_))) (by first|exact(Nat.le_trans HBW.out HB.out.size)|(simp;done)|(have h1:=HBW.out;have h2:=HB.out.size;simp;omega)) hb20)
  clear q19_0 q19_1 q19_2 q19_3 q19_4 q19_5 r19_0 r19_1 r19_2
  obtain⟨q20_0,q20_1,q20_2,q20_3,q20_4,q20_5⟩:=(HC _ HB.out).out
  clear hb20
  have r20_0:=Nat.lt_of_lt_of_le (show w.heap.size<W.heap.size by have:=HWs.out;omega) HB.out.size
  have r20_1:=Nat.lt_of_lt_of_le (show w.heap.size+1<W.heap.size by have:=HWs.out;omega) HB.out.size
  have r20_2:=Nat.lt_of_lt_of_le (show w.heap.size+1+1<W.heap.size by have:=HWs.out;omega) HB.out.size
  go_wp2_with fail
  refine((HFW _).out).mono ?_
  rintro e w2 ⟨rfl,hb21⟩
  have HB:=Lib.hid (below_next (below_next HB.out (Nat.le_trans HBW.out HB.out.size) (by repeat (first|exact Below.refl _ _|refine below_alloc ?_))) (by first|exact(Nat.le_trans HBW.out HB.out.size)|(simp;done)|(have h1:=HBW.out;have h2:=HB.out.size;simp;omega)) hb21)
  clear q20_0 q20_1 q20_2 q20_3 q20_4 q20_5 r20_0 r20_1 r20_2
  obtain⟨q21_0,q21_1,q21_2,q21_3,q21_4,q21_5⟩:=(HC _ HB.out).out
  clear hb21
  have r21_0:=Nat.lt_of_lt_of_le (show w.heap.size<W.heap.size by have:=HWs.out;omega) HB.out.size
  have r21_1:=Nat.lt_of_lt_of_le (show w.heap.size+1<W.heap.size by have:=HWs.out;omega) HB.out.size
  have r21_2:=Nat.lt_of_lt_of_le (show w.heap.size+1+1<W.heap.size by have:=HWs.out;omega) HB.out.size
  go_wp2_with fail
  refine((HRT _ (HW.out.trans (HB.out.mono HW.out.size))).out).mono ?_
  rintro e w3 ⟨rfl,hb22⟩
  have HB:=Lib.hid (below_next (below_next HB.out (Nat.le_trans HBW.out HB.out.size) (by repeat (first|exact Below.refl _ _|refine below_alloc ?_))) (by first|exact(Nat.le_trans HBW.out HB.out.size)|(simp;done)|(have h1:=HBW.out;have h2:=HB.out.size;simp;omega)) hb22)
  clear q21_0 q21_1 q21_2 q21_3 q21_4 q21_5 r21_0 r21_1 r21_2
  obtain⟨q22_0,q22_1,q22_2,q22_3,q22_4,q22_5⟩:=(HC _ HB.out).out
  clear hb22
  have r22_0:=Nat.lt_of_lt_of_le (show w.heap.size<W.heap.size by have:=HWs.out;omega) HB.out.size
  have r22_1:=Nat.lt_of_lt_of_le (show w.heap.size+1<W.heap.size by have:=HWs.out;omega) HB.out.size
  have r22_2:=Nat.lt_of_lt_of_le (show w.heap.size+1+1<W.heap.size by have:=HWs.out;omega) HB.out.size
  go_wp2_with fail
  refine((HIA _).out).mono ?_
  rintro e w4 ⟨rfl,hb23⟩
  have HB:=Lib.hid (below_next (below_next HB.out (Nat.le_trans HBW.out HB.out.size) (by repeat (first|exact Below.refl _ _|refine below_alloc ?_))) (by first|exact(Nat.le_trans HBW.out HB.out.size)|(simp;done)|(have h1:=HBW.out;have h2:=HB.out.size;simp;omega)) hb23)
  clear q22_0 q22_1 q22_2 q22_3 q22_4 q22_5 r22_0 r22_1 r22_2
  obtain⟨q23_0,q23_1,q23_2,q23_3,q23_4,q23_5⟩:=(HC _ HB.out).out
  clear hb23
  have r23_0:=Nat.lt_of_lt_of_le (show w.heap.size<W.heap.size by have:=HWs.out;omega) HB.out.size
  have r23_1:=Nat.lt_of_lt_of_le (show w.heap.size+1<W.heap.size by have:=HWs.out;omega) HB.out.size
  have r23_2:=Nat.lt_of_lt_of_le (show w.heap.size+1+1<W.heap.size by have:=HWs.out;omega) HB.out.size
  go_wp2_with fail
  refine((HIB _).out).mono ?_
  rintro e w5 ⟨rfl,hb24⟩
  have HB:=Lib.hid (below_next (below_next HB.out (Nat.le_trans HBW.out HB.out.size) (by repeat (first|exact Below.refl _ _|refine below_alloc ?_))) (by first|exact(Nat.le_trans HBW.out HB.out.size)|(simp;done)|(have h1:=HBW.out;have h2:=HB.out.size;simp;omega)) hb24)
  clear q23_0 q23_1 q23_2 q23_3 q23_4 q23_5 r23_0 r23_1 r23_2
  obtain⟨q24_0,q24_1,q24_2,q24_3,q24_4,q24_5⟩:=(HC _ HB.out).out
  clear hb24
  have r24_0:=Nat.lt_of_lt_of_le (show w.heap.size<W.heap.size by have:=HWs.out;omega) HB.out.size
  have r24_1:=Nat.lt_of_lt_of_le (show w.heap.size+1<W.heap.size by have:=HWs.out;omega) HB.out.size
  have r24_2:=Nat.lt_of_lt_of_le (show w.heap.size+1+1<W.heap.size by have:=HWs.out;omega) HB.out.size
  go_wp2_with fail
  refine((HAW _).out).mono ?_
  rintro e wz ⟨rfl,hb25⟩
  have HB:=Lib.hid (below_next (below_next HB.out (Nat.le_trans HBW.out HB.out.size) (by repeat (first|exact Below.refl _ _|refine below_alloc ?_))) (by first|exact(Nat.le_trans HBW.out HB.out.size)|(simp;done)|(have h1:=HBW.out;have h2:=HB.out.size;simp;omega)) hb25)
  clear q24_0 q24_1 q24_2 q24_3 q24_4 q24_5 r24_0 r24_1 r24_2
  obtain⟨q25_0,q25_1,q25_2,q25_3,q25_4,q25_5⟩:=(HC _ HB.out).out
  clear hb25
  have r25_0:=Nat.lt_of_lt_of_le (show w.heap.size<W.heap.size by have:=HWs.out;omega) HB.out.size
  have r25_1:=Nat.lt_of_lt_of_le (show w.heap.size+1<W.heap.size by have:=HWs.out;omega) HB.out.size
  have r25_2:=Nat.lt_of_lt_of_le (show w.heap.size+1+1<W.heap.size by have:=HWs.out;omega) HB.out.size
  go_wp2_with fail
  go_ret
  exact⟨rfl,(HW.out.trans (HB.out.mono (by have:=HWs.out;omega)))⟩
 have HIAA:=Lib.hid hia
 have HIBB:=Lib.hid hib
 rw[hia] at HIA
 rw[hib] at HIB
 clear hia hib
 cases heq:decide (a=b)
 rotate_left
 ·have rq:=eq_pt_t heq
  clear hv he hf heq
  go_enter Try.func5,Try.ntmps5
  go_wp2_with fail
  first|refine wp_name (fun W hW=> ?_)|refine calls_name (fun W hW=> ?_)
  have HW:Hid (Below w.heap.size w W):=Lib.hid (by rw[←hW];repeat (first|exact Below.refl _ _|refine below_alloc ?_))
  have HWs:Hid (W.heap.size=w.heap.size+1+1+1):=Lib.hid (by rw[←hW];simp)
  have HBW:Hid (W.heap.size≤W.heap.size):=Lib.hid (by have:=HWs.out;omega)
  have HC:=fun(W1:World) (hb:Below (W.heap.size) W W1)=>Lib.hid (show W1.cell? ⟨w.heap.size,0,none⟩=some (.slice va vn vc)∧W1.cell? ⟨w.heap.size,1,none⟩=some (.slice ea en ec)∧W1.cell? ⟨w.heap.size+1,0,none⟩=some (.int .i64 a.x)∧W1.cell? ⟨w.heap.size+1,1,none⟩=some (.int .i64 a.y)∧W1.cell? ⟨w.heap.size+1+1,0,none⟩=some (.int .i64 b.x)∧W1.cell? ⟨w.heap.size+1+1,1,none⟩=some (.int .i64 b.y) from by exact⟨(hb.cell (p:=⟨w.heap.size,0,none⟩) (by show w.heap.size<W.heap.size;have:=HWs.out;omega)).trans (by rw[←hW];clear hW;go_simp),(hb.cell (p:=⟨w.heap.size,1,none⟩) (by show w.heap.size<W.heap.size;have:=HWs.out;omega)).trans (by rw[←hW];clear hW;go_simp),(hb.cell (p:=⟨w.heap.size+1,0,none⟩) (by show w.heap.size+1<W.heap.size;have:=HWs.out;omega)).trans (by rw[←hW];clear hW;go_simp),(hb.cell (p:=⟨w.heap.size+1,1,none⟩) (by show w.heap.size+1<W.heap.size;have:=HWs.out;omega)).trans (by rw[←hW];clear hW;go_simp),(hb.cell (p:=⟨w.heap.size+1+1,0,none⟩) (by show w.heap.size+1+1<W.heap.size;have:=HWs.out;omega)).trans (by rw[←hW];clear hW;go_simp),(hb.cell (p:=⟨w.heap.size+1+1,1,none⟩) (by show w.heap.size+1+1<W.heap.size;have:=HWs.out;omega)).trans (by rw[←hW];clear hW;go_simp)⟩)
  have HB:=Lib.hid (Below.refl (W.heap.size) W)
  clear hW
  obtain⟨q27_0,q27_1,q27_2,q27_3,q27_4,q27_5⟩:=(HC _ HB.out).out
  have r27_0:=Nat.lt_of_lt_of_le (show w.heap.size<W.heap.size by have:=HWs.out;omega) HB.out.size
  have r27_1:=Nat.lt_of_lt_of_le (show w.heap.size+1<W.heap.size by have:=HWs.out;omega) HB.out.size
  have r27_2:=Nat.lt_of_lt_of_le (show w.heap.size+1+1<W.heap.size by have:=HWs.out;omega) HB.out.size
  refine((HAW _).out).mono ?_
  rintro e w1 ⟨rfl,hb28⟩
  have HB:=Lib.hid (below_next (below_next HB.out (Nat.le_trans HBW.out HB.out.size) (by repeat (first|exact Below.refl _ _|refine below_alloc ?_))) (by first|exact(Nat.le_trans HBW.out HB.out.size)|(simp;done)|(have h1:=HBW.out;have h2:=HB.out.size;simp;omega)) hb28)
  clear q27_0 q27_1 q27_2 q27_3 q27_4 q27_5 r27_0 r27_1 r27_2
  obtain⟨q28_0,q28_1,q28_2,q28_3,q28_4,q28_5⟩:=(HC _ HB.out).out
  clear hb28
  have r28_0:=Nat.lt_of_lt_of_le (show w.heap.size<W.heap.size by have:=HWs.out;omega) HB.out.size
  have r28_1:=Nat.lt_of_lt_of_le (show w.heap.size+1<W.heap.size by have:=HWs.out;omega) HB.out.size
  have r28_2:=Nat.lt_of_lt_of_le (show w.heap.size+1+1<W.heap.size by have:=HWs.out;omega) HB.out.size
  go_wp2_with fail
  refine((HFW _).out).mono ?_
  rintro e w2 ⟨rfl,hb29⟩
  have HB:=Lib.hid (below_next (below_next HB.out (Nat.le_trans HBW.out HB.out.size) (by repeat (first|exact Below.refl _ _|refine below_alloc ?_))) (by first|exact(Nat.le_trans HBW.out HB.out.size)|(simp;done)|(have h1:=HBW.out;have h2:=HB.out.size;simp;omega)) hb29)
  clear q28_0 q28_1 q28_2 q28_3 q28_4 q28_5 r28_0 r28_1 r28_2
  obtain⟨q29_0,q29_1,q29_2,q29_3,q29_4,q29_5⟩:=(HC _ HB.out).out
  clear hb29
  have r29_0:=Nat.lt_of_lt_of_le (show w.heap.size<W.heap.size by have:=HWs.out;omega) HB.out.size
  have r29_1:=Nat.lt_of_lt_of_le (show w.heap.size+1<W.heap.size by have:=HWs.out;omega) HB.out.size
  have r29_2:=Nat.lt_of_lt_of_le (show w.heap.size+1+1<W.heap.size by have:=HWs.out;omega) HB.out.size
  go_wp2_with fail
  refine((HRT _ (HW.out.trans (HB.out.mono HW.out.size))).out).mono ?_
  rintro e w3 ⟨rfl,hb30⟩
  have HB:=Lib.hid (below_next (below_next HB.out (Nat.le_trans HBW.out HB.out.size) (by repeat (first|exact Below.refl _ _|refine below_alloc ?_))) (by first|exact(Nat.le_trans HBW.out HB.out.size)|(simp;done)|(have h1:=HBW.out;have h2:=HB.out.size;simp;omega)) hb30)
  clear q29_0 q29_1 q29_2 q29_3 q29_4 q29_5 r29_0 r29_1 r29_2
  obtain⟨q30_0,q30_1,q30_2,q30_3,q30_4,q30_5⟩:=(HC _ HB.out).out
  clear hb30
  have r30_0:=Nat.lt_of_lt_of_le (show w.heap.size<W.heap.size by have:=HWs.out;omega) HB.out.size
  have r30_1:=Nat.lt_of_lt_of_le (show w.heap.size+1<W.heap.size by have:=HWs.out;omega) HB.out.size
  have r30_2:=Nat.lt_of_lt_of_le (show w.heap.size+1+1<W.heap.size by have:=HWs.out;omega) HB.out.size
  go_wp2_with fail
  refine((HIA _).out).mono ?_
  rintro e w4 ⟨rfl,hb31⟩
  have HB:=Lib.hid (below_next (below_next HB.out (Nat.le_trans HBW.out HB.out.size) (by repeat (first|exact Below.refl _ _|refine below_alloc ?_))) (by first|exact(Nat.le_trans HBW.out HB.out.size)|(simp;done)|(have h1:=HBW.out;have h2:=HB.out.size;simp;omega)) hb31)
  clear q30_0 q30_1 q30_2 q30_3 q30_4 q30_5 r30_0 r30_1 r30_2
  obtain⟨q31_0,q31_1,q31_2,q31_3,q31_4,q31_5⟩:=(HC _ HB.out).out
  clear hb31
  have r31_0:=Nat.lt_of_lt_of_le (show w.heap.size<W.heap.size by have:=HWs.out;omega) HB.out.size
  have r31_1:=Nat.lt_of_lt_of_le (show w.heap.size+1<W.heap.size by have:=HWs.out;omega) HB.out.size
  have r31_2:=Nat.lt_of_lt_of_le (show w.heap.size+1+1<W.heap.size by have:=HWs.out;omega) HB.out.size
  go_wp2_with fail
  refine((HIB _).out).mono ?_
  rintro e w5 ⟨rfl,hb32⟩
  have HB:=Lib.hid (below_next (below_next HB.out (Nat.le_trans HBW.out HB.out.size) (by repeat (first|exact Below.refl _ _|refine below_alloc ?_))) (by first|exact(Nat.le_trans HBW.out HB.out.size)|(simp;done)|(have h1:=HBW.out;have h2:=HB.out.size;simp;omega)) hb32)
  clear q31_0 q31_1 q31_2 q31_3 q31_4 q31_5 r31_0 r31_1 r31_2
  obtain⟨q32_0,q32_1,q32_2,q32_3,q32_4,q32_5⟩:=(HC _ HB.out).out
  clear hb32
  have r32_0:=Nat.lt_of_lt_of_le (show w.heap.size<W.heap.size by have:=HWs.out;omega) HB.out.size
  have r32_1:=Nat.lt_of_lt_of_le (show w.heap.size+1<W.heap.size by have:=HWs.out;omega) HB.out.size
  have r32_2:=Nat.lt_of_lt_of_le (show w.heap.size+1+1<W.heap.size by have:=HWs.out;omega) HB.out.size
  go_wp2_with fail
  refine((HAW _).out).mono ?_
  rintro e wz ⟨rfl,hb33⟩
  have HB:=Lib.hid (below_next (below_next HB.out (Nat.le_trans HBW.out HB.out.size) (by repeat (first|exact Below.refl _ _|refine below_alloc ?_))) (by first|exact(Nat.le_trans HBW.out HB.out.size)|(simp;done)|(have h1:=HBW.out;have h2:=HB.out.size;simp;omega)) hb33)
  clear q32_0 q32_1 q32_2 q32_3 q32_4 q32_5 r32_0 r32_1 r32_2
  obtain⟨q33_0,q33_1,q33_2,q33_3,q33_4,q33_5⟩:=(HC _ HB.out).out
  clear hb33
  have r33_0:=Nat.lt_of_lt_of_le (show w.heap.size<W.heap.size by have:=HWs.out;omega) HB.out.size
  have r33_1:=Nat.lt_of_lt_of_le (show w.heap.size+1<W.heap.size by have:=HWs.out;omega) HB.out.size
  have r33_2:=Nat.lt_of_lt_of_le (show w.heap.size+1+1<W.heap.size by have:=HWs.out;omega) HB.out.size
  go_wp2_with fail
  go_ret
  exact⟨rfl,(HW.out.trans (HB.out.mono (by have:=HWs.out;omega)))⟩
 have rq:=eq_pt_f heq
 have hn30:=hf.1
 have hm30:=hf.2
 have HNE:=Lib.hid (of_decide_eq_false heq)
 have HV:=Lib.hid hv
 have HE:=Lib.hid he
 have HL:=Lib.hid hv.1
 have HM:=Lib.hid he.1
 have HFP:=Lib.hid hfit
 clear hv he hf heq
 go_enter Try.func5,Try.ntmps5
 go_wp2_with fail
 first|refine wp_name (fun W hW=> ?_)|refine calls_name (fun W hW=> ?_)
 have HW:Hid (Below w.heap.size w W):=Lib.hid (by rw[←hW];repeat (first|exact Below.refl _ _|refine below_alloc ?_))
 have HWs:Hid (W.heap.size=w.heap.size+1+1+1):=Lib.hid (by rw[←hW];simp)
 have HBW:Hid (W.heap.size≤W.heap.size):=Lib.hid (by have:=HWs.out;omega)
 have HC:=fun(W1:World) (hb:Below (W.heap.size) W W1)=>Lib.hid (show W1.cell? ⟨w.heap.size,0,none⟩=some (.slice va vn vc)∧W1.cell? ⟨w.heap.size,1,none⟩=some (.slice ea en ec)∧W1.cell? ⟨w.heap.size+1,0,none⟩=some (.int .i64 a.x)∧W1.cell? ⟨w.heap.size+1,1,none⟩=some (.int .i64 a.y)∧W1.cell? ⟨w.heap.size+1+1,0,none⟩=some (.int .i64 b.x)∧W1.cell? ⟨w.heap.size+1+1,1,none⟩=some (.int .i64 b.y) from by exact⟨(hb.cell (p:=⟨w.heap.size,0,none⟩) (by show w.heap.size<W.heap.size;have:=HWs.out;omega)).trans (by rw[←hW];clear hW;go_simp),(hb.cell (p:=⟨w.heap.size,1,none⟩) (by show w.heap.size<W.heap.size;have:=HWs.out;omega)).trans (by rw[←hW];clear hW;go_simp),(hb.cell (p:=⟨w.heap.size+1,0,none⟩) (by show w.heap.size+1<W.heap.size;have:=HWs.out;omega)).trans (by rw[←hW];clear hW;go_simp),(hb.cell (p:=⟨w.heap.size+1,1,none⟩) (by show w.heap.size+1<W.heap.size;have:=HWs.out;omega)).trans (by rw[←hW];clear hW;go_simp),(hb.cell (p:=⟨w.heap.size+1+1,0,none⟩) (by show w.heap.size+1+1<W.heap.size;have:=HWs.out;omega)).trans (by rw[←hW];clear hW;go_simp),(hb.cell (p:=⟨w.heap.size+1+1,1,none⟩) (by show w.heap.size+1+1<W.heap.size;have:=HWs.out;omega)).trans (by rw[←hW];clear hW;go_simp)⟩)
 have HB:=Lib.hid (Below.refl (W.heap.size) W)
 clear hW
 obtain⟨q35_0,q35_1,q35_2,q35_3,q35_4,q35_5⟩:=(HC _ HB.out).out
 have r35_0:=Nat.lt_of_lt_of_le (show w.heap.size<W.heap.size by have:=HWs.out;omega) HB.out.size
 have r35_1:=Nat.lt_of_lt_of_le (show w.heap.size+1<W.heap.size by have:=HWs.out;omega) HB.out.size
 have r35_2:=Nat.lt_of_lt_of_le (show w.heap.size+1+1<W.heap.size by have:=HWs.out;omega) HB.out.size
 refine((HAW _).out).mono ?_
 rintro e w1 ⟨rfl,hb36⟩
 have HB:=Lib.hid (below_next (below_next HB.out (Nat.le_trans HBW.out HB.out.size) (by repeat (first|exact Below.refl _ _|refine below_alloc ?_))) (by first|exact(Nat.le_trans HBW.out HB.out.size)|(simp;done)|(have h1:=HBW.out;have h2:=HB.out.size;simp;omega)) hb36)
 clear q35_0 q35_1 q35_2 q35_3 q35_4 q35_5 r35_0 r35_1 r35_2
 obtain⟨q36_0,q36_1,q36_2,q36_3,q36_4,q36_5⟩:=(HC _ HB.out).out
 clear hb36
 have r36_0:=Nat.lt_of_lt_of_le (show w.heap.size<W.heap.size by have:=HWs.out;omega) HB.out.size
 have r36_1:=Nat.lt_of_lt_of_le (show w.heap.size+1<W.heap.size by have:=HWs.out;omega) HB.out.size
 have r36_2:=Nat.lt_of_lt_of_le (show w.heap.size+1+1<W.heap.size by have:=HWs.out;omega) HB.out.size
 go_wp2_with fail
 refine((HFW _).out).mono ?_
 rintro e w2 ⟨rfl,hb37⟩
 have HB:=Lib.hid (below_next (below_next HB.out (Nat.le_trans HBW.out HB.out.size) (by repeat (first|exact Below.refl _ _|refine below_alloc ?_))) (by first|exact(Nat.le_trans HBW.out HB.out.size)|(simp;done)|(have h1:=HBW.out;have h2:=HB.out.size;simp;omega)) hb37)
 clear q36_0 q36_1 q36_2 q36_3 q36_4 q36_5 r36_0 r36_1 r36_2
 obtain⟨q37_0,q37_1,q37_2,q37_3,q37_4,q37_5⟩:=(HC _ HB.out).out
 clear hb37
 have r37_0:=Nat.lt_of_lt_of_le (show w.heap.size<W.heap.size by have:=HWs.out;omega) HB.out.size
 have r37_1:=Nat.lt_of_lt_of_le (show w.heap.size+1<W.heap.size by have:=HWs.out;omega) HB.out.size
 have r37_2:=Nat.lt_of_lt_of_le (show w.heap.size+1+1<W.heap.size by have:=HWs.out;omega) HB.out.size
 go_wp2_with fail
 refine((HRT _ (HW.out.trans (HB.out.mono HW.out.size))).out).mono ?_
 rintro e w3 ⟨rfl,hb38⟩
 have HB:=Lib.hid (below_next (below_next HB.out (Nat.le_trans HBW.out HB.out.size) (by repeat (first|exact Below.refl _ _|refine below_alloc ?_))) (by first|exact(Nat.le_trans HBW.out HB.out.size)|(simp;done)|(have h1:=HBW.out;have h2:=HB.out.size;simp;omega)) hb38)
 clear q37_0 q37_1 q37_2 q37_3 q37_4 q37_5 r37_0 r37_1 r37_2
 obtain⟨q38_0,q38_1,q38_2,q38_3,q38_4,q38_5⟩:=(HC _ HB.out).out
 clear hb38
 have r38_0:=Nat.lt_of_lt_of_le (show w.heap.size<W.heap.size by have:=HWs.out;omega) HB.out.size
 have r38_1:=Nat.lt_of_lt_of_le (show w.heap.size+1<W.heap.size by have:=HWs.out;omega) HB.out.size
 have r38_2:=Nat.lt_of_lt_of_le (show w.heap.size+1+1<W.heap.size by have:=HWs.out;omega) HB.out.size
 go_wp2_with fail
 refine((HIA _).out).mono ?_
 rintro e w4 ⟨rfl,hb39⟩
 have HB:=Lib.hid (below_next (below_next HB.out (Nat.le_trans HBW.out HB.out.size) (by repeat (first|exact Below.refl _ _|refine below_alloc ?_))) (by first|exact(Nat.le_trans HBW.out HB.out.size)|(simp;done)|(have h1:=HBW.out;have h2:=HB.out.size;simp;omega)) hb39)
 clear q38_0 q38_1 q38_2 q38_3 q38_4 q38_5 r38_0 r38_1 r38_2
 obtain⟨q39_0,q39_1,q39_2,q39_3,q39_4,q39_5⟩:=(HC _ HB.out).out
 clear hb39
 have r39_0:=Nat.lt_of_lt_of_le (show w.heap.size<W.heap.size by have:=HWs.out;omega) HB.out.size
 have r39_1:=Nat.lt_of_lt_of_le (show w.heap.size+1<W.heap.size by have:=HWs.out;omega) HB.out.size
 have r39_2:=Nat.lt_of_lt_of_le (show w.heap.size+1+1<W.heap.size by have:=HWs.out;omega) HB.out.size
 go_wp2_with fail
 refine((HIB _).out).mono ?_
 rintro e w5 ⟨rfl,hb40⟩
 have HB:=Lib.hid (below_next (below_next HB.out (Nat.le_trans HBW.out HB.out.size) (by repeat (first|exact Below.refl _ _|refine below_alloc ?_))) (by first|exact(Nat.le_trans HBW.out HB.out.size)|(simp;done)|(have h1:=HBW.out;have h2:=HB.out.size;simp;omega)) hb40)
 clear q39_0 q39_1 q39_2 q39_3 q39_4 q39_5 r39_0 r39_1 r39_2
 obtain⟨q40_0,q40_1,q40_2,q40_3,q40_4,q40_5⟩:=(HC _ HB.out).out
 clear hb40
 have r40_0:=Nat.lt_of_lt_of_le (show w.heap.size<W.heap.size by have:=HWs.out;omega) HB.out.size
 have r40_1:=Nat.lt_of_lt_of_le (show w.heap.size+1<W.heap.size by have:=HWs.out;omega) HB.out.size
 have r40_2:=Nat.lt_of_lt_of_le (show w.heap.size+1+1<W.heap.size by have:=HWs.out;omega) HB.out.size
 go_wp2_with fail
 clear rq
 clear q40_0 q40_1 q40_2 q40_3 q40_4 q40_5 r40_0 r40_1 r40_2
 go_loopw [7] (fun v wr=> ∃k:Nat,k≤vn∧v= .int .i64 k∧(∀y∈p.vs.take k,wthR y.at_ a b=false)∧Below W.heap.size W wr) (fun v _=>vn - (intOf v).toNat)
 case atStart=>exact⟨0,Nat.zero_le _,rfl,fun y hy=>by simp at hy,HB.out⟩
 case round=>
  clear HB
  obtain⟨k,hk,rfl,hall,hb⟩:=hrel
  obtain⟨wq,rfl⟩: ∃x:World,x=wr:=⟨_,rfl⟩
  have HB:=Lib.hid hb
  have HA:=Lib.hid hall
  clear hb hall
  obtain⟨q41_0,q41_1,q41_2,q41_3,q41_4,q41_5⟩:=(HC _ HB.out).out
  have r41_0:=Nat.lt_of_lt_of_le (show w.heap.size<W.heap.size by have:=HWs.out;omega) HB.out.size
  have r41_1:=Nat.lt_of_lt_of_le (show w.heap.size+1<W.heap.size by have:=HWs.out;omega) HB.out.size
  have r41_2:=Nat.lt_of_lt_of_le (show w.heap.size+1+1<W.heap.size by have:=HWs.out;omega) HB.out.size
  by_cases hlt:k<vn
  ·skip
   obtain⟨vb,off,rfl,hvb,hcell⟩:=HV.out.row (by omega)
   have HCV:=fun(W1:World) (hb:Below w.heap.size w W1) (i:Nat) (u:Vx) (hi:p.vs[i]? =some u)=>Lib.hid (hcell W1 (hb.mono hB) i u hi)
   clear hcell
   obtain⟨v,hv⟩: ∃v,p.vs[k]? =some v:=⟨_,List.getElem?_eq_getElem (by have:=HL.out;omega)⟩
   have HVK:=Lib.hid hv
   have HW5:=fun W=>Lib.hid (r5within_any v.at_ a b W (HRP.out.v k v hv).inr HIAA.out HIBB.out)
   clear hv
   cases hth:wthR v.at_ a b
   ·rw[hth] at HW5
    have HTH:=Lib.hid hth
    clear hth
    go_wp2_with fail
    refine wp_name (fun c42 hc42=> ?_)
    have HB:=Lib.hid (below_name (below_next HB.out (Nat.le_trans HBW.out HB.out.size) (by repeat (first|exact Below.refl _ _|refine below_alloc ?_))) hc42)
    have y9:=fun(x:Later c42)=>(HCV x.1 (HW.out.trans ((HB.out.trans (x.2.mono HB.out.size)).mono HW.out.size)) k v HVK.out).out.2
    clear hc42
    have x42_0:=fun(x:Later c42)=>(HC _ (below_next HB.out (Nat.le_trans HBW.out HB.out.size) x.2)).out.1
    have x42_1:=fun(x:Later c42)=>(HC _ (below_next HB.out (Nat.le_trans HBW.out HB.out.size) x.2)).out.2.1
    have x42_2:=fun(x:Later c42)=>(HC _ (below_next HB.out (Nat.le_trans HBW.out HB.out.size) x.2)).out.2.2.1
    have x42_3:=fun(x:Later c42)=>(HC _ (below_next HB.out (Nat.le_trans HBW.out HB.out.size) x.2)).out.2.2.2.1
    have x42_4:=fun(x:Later c42)=>(HC _ (below_next HB.out (Nat.le_trans HBW.out HB.out.size) x.2)).out.2.2.2.2.1
    have x42_5:=fun(x:Later c42)=>(HC _ (below_next HB.out (Nat.le_trans HBW.out HB.out.size) x.2)).out.2.2.2.2.2
    refine wp_region_later (by kernel_rfl) (by kernel_rfl) ?_
    repeat (first|go_big_quiet_step (((go_at_call 24;with_reducible refine Later.call (HW5 _).out)))|quiet_step (((go_at_call 24;with_reducible refine Later.call (HW5 _).out))))
    refine wpQuiet_nil ?_
    intro w42 hw42
    have hb42:=later_below hw42
    clear hw42
    have HB:=Lib.hid (below_next HB.out (Nat.le_trans HBW.out HB.out.size) hb42)
    clear x42_0 x42_1 x42_2 x42_3 x42_4 x42_5
    clear q41_0 q41_1 q41_2 q41_3 q41_4 q41_5 r41_0 r41_1 r41_2
    obtain⟨q42_0,q42_1,q42_2,q42_3,q42_4,q42_5⟩:=(HC _ HB.out).out
    skip
    clear hb42
    have r42_0:=Nat.lt_of_lt_of_le (show w.heap.size<W.heap.size by have:=HWs.out;omega) HB.out.size
    have r42_1:=Nat.lt_of_lt_of_le (show w.heap.size+1<W.heap.size by have:=HWs.out;omega) HB.out.size
    have r42_2:=Nat.lt_of_lt_of_le (show w.heap.size+1+1<W.heap.size by have:=HWs.out;omega) HB.out.size
    go_wp2_with fail
    go_roundw
    case rel=>
     refine⟨k+1,by omega,by go_num,fun y hy=> ?_,HB.out⟩
     rw[take_snoc' HVK.out] at hy
     rcases List.mem_append.1 hy with hy|hy
     ·exact HA.out y hy
     ·simp at hy;subst hy;exact HTH.out
    case measure=>simp[intOf];omega
   ·rw[hth] at HW5
    clear hth
    go_wp2_with fail
    refine wp_name (fun c43 hc43=> ?_)
    have HB:=Lib.hid (below_name (below_next HB.out (Nat.le_trans HBW.out HB.out.size) (by repeat (first|exact Below.refl _ _|refine below_alloc ?_))) hc43)
    have y9:=fun(x:Later c43)=>(HCV x.1 (HW.out.trans ((HB.out.trans (x.2.mono HB.out.size)).mono HW.out.size)) k v HVK.out).out.2
    clear hc43
    have x43_0:=fun(x:Later c43)=>(HC _ (below_next HB.out (Nat.le_trans HBW.out HB.out.size) x.2)).out.1
    have x43_1:=fun(x:Later c43)=>(HC _ (below_next HB.out (Nat.le_trans HBW.out HB.out.size) x.2)).out.2.1
    have x43_2:=fun(x:Later c43)=>(HC _ (below_next HB.out (Nat.le_trans HBW.out HB.out.size) x.2)).out.2.2.1
    have x43_3:=fun(x:Later c43)=>(HC _ (below_next HB.out (Nat.le_trans HBW.out HB.out.size) x.2)).out.2.2.2.1
    have x43_4:=fun(x:Later c43)=>(HC _ (below_next HB.out (Nat.le_trans HBW.out HB.out.size) x.2)).out.2.2.2.2.1
    have x43_5:=fun(x:Later c43)=>(HC _ (below_next HB.out (Nat.le_trans HBW.out HB.out.size) x.2)).out.2.2.2.2.2
    refine wp_region_later (by kernel_rfl) (by kernel_rfl) ?_
    repeat (first|go_big_quiet_step (((go_at_call 24;with_reducible refine Later.call (HW5 _).out)))|quiet_step (((go_at_call 24;with_reducible refine Later.call (HW5 _).out))))
    refine wpQuiet_nil ?_
    intro w43 hw43
    have hb43:=later_below hw43
    clear hw43
    have HB:=Lib.hid (below_next HB.out (Nat.le_trans HBW.out HB.out.size) hb43)
    clear x43_0 x43_1 x43_2 x43_3 x43_4 x43_5
    clear q41_0 q41_1 q41_2 q41_3 q41_4 q41_5 r41_0 r41_1 r41_2
    obtain⟨q43_0,q43_1,q43_2,q43_3,q43_4,q43_5⟩:=(HC _ HB.out).out
    skip
    clear hb43
    have r43_0:=Nat.lt_of_lt_of_le (show w.heap.size<W.heap.size by have:=HWs.out;omega) HB.out.size
    have r43_1:=Nat.lt_of_lt_of_le (show w.heap.size+1<W.heap.size by have:=HWs.out;omega) HB.out.size
    have r43_2:=Nat.lt_of_lt_of_le (show w.heap.size+1+1<W.heap.size by have:=HWs.out;omega) HB.out.size
    go_wp2_with fail
    go_ret
    exact⟨rfl,(HW.out.trans (HB.out.mono (by have:=HWs.out;omega)))⟩
  ·have HNV:=Lib.hid (fun v (hv:v∈p.vs)=>HA.out v (by rw[List.take_of_length_le (by have:=HL.out;omega)];exact hv))
   clear HA
   go_wp2_with fail
   clear q41_0 q41_1 q41_2 q41_3 q41_4 q41_5 r41_0 r41_1 r41_2
   go_loopw [8] (fun v wr=> ∃n:Nat,n≤en∧v= .int .i64 n∧(∀y∈p.es.take n,meetB a b (ptZ p.vs y.a) (ptZ p.vs y.b)=false)∧Below W.heap.size W wr) (fun v _=>en - (intOf v).toNat)
   case atStart=>exact⟨0,Nat.zero_le _,rfl,fun y hy=>by simp at hy,HB.out⟩
   case round=>
    clear HB
    obtain⟨n,hn,rfl,hall,hb⟩:=hrel
    have HB:=Lib.hid hb
    have HA:=Lib.hid hall
    clear hb hall
    obtain⟨q45_0,q45_1,q45_2,q45_3,q45_4,q45_5⟩:=(HC _ HB.out).out
    have r45_0:=Nat.lt_of_lt_of_le (show w.heap.size<W.heap.size by have:=HWs.out;omega) HB.out.size
    have r45_1:=Nat.lt_of_lt_of_le (show w.heap.size+1<W.heap.size by have:=HWs.out;omega) HB.out.size
    have r45_2:=Nat.lt_of_lt_of_le (show w.heap.size+1+1<W.heap.size by have:=HWs.out;omega) HB.out.size
    by_cases hln:n<en
    ·skip
     obtain⟨eb,eoff,rfl,heb,hcell⟩:=HE.out.row (by omega)
     have HCE:=fun(W1:World) (hb:Below w.heap.size w W1) (i:Nat) (u:Ed) (hi:p.es[i]? =some u)=>Lib.hid (hcell W1 (hb.mono hB) i u hi)
     clear hcell
     obtain⟨e,he⟩: ∃e,p.es[n]? =some e:=⟨_,List.getElem?_eq_getElem (by have:=HM.out;omega)⟩
     have HEK:=Lib.hid he
     have hei:EdIn p.vs e:=by
      obtain⟨A,D,ho⟩:=HRP.out.e n e he
      exact EdIn.of HRP.out.v (hasV_iff.2 ⟨A,ho.pa⟩) (hasV_iff.2 ⟨D,ho.pb⟩) ho.ab
     have HAA:=fun(W1:World) (hb:Below w.heap.size w W1)=>Lib.hid (r15at_any (w:=W1) (vc:=vc) (HV.out.below (hb.mono hB)) (Nat.le_trans hB hb.size) (by omega) (.slice (some ⟨eb,eoff,none⟩) en ec) ⟨_,_,_,rfl⟩ e.a hei.va)
     have HAB:=fun(W1:World) (hb:Below w.heap.size w W1)=>Lib.hid (r15at_any (w:=W1) (vc:=vc) (HV.out.below (hb.mono hB)) (Nat.le_trans hB hb.size) (by omega) (.slice (some ⟨eb,eoff,none⟩) en ec) ⟨_,_,_,rfl⟩ e.b hei.vb)
     have HME:=fun W=>Lib.hid (r5meet_any a b (findV p.vs e.a).at_ (findV p.vs e.b).at_ W HIAA.out HIBB.out hei.ia hei.ib HNE.out hei.ne)
     rw[findV_ptZ] at HAA HAB HME
     rw[findV_ptZ] at HME
     clear he hei
     obtain⟨M,hM⟩: ∃M,M=meetB a b (ptZ p.vs e.a) (ptZ p.vs e.b):=⟨_,rfl⟩
     have HEQ:=Lib.hid hM.symm
     rw[←hM] at HME
     clear hM
     generalize ptZ p.vs e.a=A at HAA HME
     generalize ptZ p.vs e.b=D at HAB HME
     cases M
     ·go_wp2_with fail
      refine wp_name (fun c46 hc46=> ?_)
      have HB:=Lib.hid (below_name (below_next HB.out (Nat.le_trans HBW.out HB.out.size) (by repeat (first|exact Below.refl _ _|refine below_alloc ?_))) hc46)
      have YB:=fun(x:Later c46)=>HW.out.trans ((HB.out.trans (x.2.mono HB.out.size)).mono HW.out.size);have HAAL:=fun(x:Later c46)=>HAA x.1 (YB x);have HABL:=fun(x:Later c46)=>HAB x.1 (YB x);have y9:=fun(x:Later c46)=>(HCE x.1 (YB x) n e HEK.out).out.2;clear YB
      clear hc46
      have x46_0:=fun(x:Later c46)=>(HC _ (below_next HB.out (Nat.le_trans HBW.out HB.out.size) x.2)).out.1
      have x46_1:=fun(x:Later c46)=>(HC _ (below_next HB.out (Nat.le_trans HBW.out HB.out.size) x.2)).out.2.1
      have x46_2:=fun(x:Later c46)=>(HC _ (below_next HB.out (Nat.le_trans HBW.out HB.out.size) x.2)).out.2.2.1
      have x46_3:=fun(x:Later c46)=>(HC _ (below_next HB.out (Nat.le_trans HBW.out HB.out.size) x.2)).out.2.2.2.1
      have x46_4:=fun(x:Later c46)=>(HC _ (below_next HB.out (Nat.le_trans HBW.out HB.out.size) x.2)).out.2.2.2.2.1
      have x46_5:=fun(x:Later c46)=>(HC _ (below_next HB.out (Nat.le_trans HBW.out HB.out.size) x.2)).out.2.2.2.2.2
      refine wp_region_later (by kernel_rfl) (by kernel_rfl) ?_
      repeat (first|go_big_quiet_step (((first|(go_at_call 26;with_reducible refine Later.call (HAAL _).out)|(go_at_call 26;with_reducible refine Later.call (HABL _).out)|(go_at_call 25;with_reducible refine Later.call (HME _).out))))|quiet_step (((first|(go_at_call 26;with_reducible refine Later.call (HAAL _).out)|(go_at_call 26;with_reducible refine Later.call (HABL _).out)|(go_at_call 25;with_reducible refine Later.call (HME _).out)))))
      refine wpQuiet_nil ?_
      intro w46 hw46
      have hb46:=later_below hw46
      clear hw46
      have HB:=Lib.hid (below_next HB.out (Nat.le_trans HBW.out HB.out.size) hb46)
      clear x46_0 x46_1 x46_2 x46_3 x46_4 x46_5
      clear q45_0 q45_1 q45_2 q45_3 q45_4 q45_5 r45_0 r45_1 r45_2
      obtain⟨q46_0,q46_1,q46_2,q46_3,q46_4,q46_5⟩:=(HC _ HB.out).out
      skip
      clear hb46
      have r46_0:=Nat.lt_of_lt_of_le (show w.heap.size<W.heap.size by have:=HWs.out;omega) HB.out.size
      have r46_1:=Nat.lt_of_lt_of_le (show w.heap.size+1<W.heap.size by have:=HWs.out;omega) HB.out.size
      have r46_2:=Nat.lt_of_lt_of_le (show w.heap.size+1+1<W.heap.size by have:=HWs.out;omega) HB.out.size
      go_wp2_with fail
      go_roundw
      case rel=>
       refine⟨n+1,by omega,by go_num,fun y hy=> ?_,HB.out⟩
       rw[take_snoc' HEK.out] at hy
       rcases List.mem_append.1 hy with hy|hy
       ·exact HA.out y hy
       ·simp at hy;subst hy;exact HEQ.out
      case measure=>simp[intOf];omega
     ·go_wp2_with fail
      refine wp_name (fun c47 hc47=> ?_)
      have HB:=Lib.hid (below_name (below_next HB.out (Nat.le_trans HBW.out HB.out.size) (by repeat (first|exact Below.refl _ _|refine below_alloc ?_))) hc47)
      have YB:=fun(x:Later c47)=>HW.out.trans ((HB.out.trans (x.2.mono HB.out.size)).mono HW.out.size);have HAAL:=fun(x:Later c47)=>HAA x.1 (YB x);have HABL:=fun(x:Later c47)=>HAB x.1 (YB x);have y9:=fun(x:Later c47)=>(HCE x.1 (YB x) n e HEK.out).out.2;clear YB
      clear hc47
      have x47_0:=fun(x:Later c47)=>(HC _ (below_next HB.out (Nat.le_trans HBW.out HB.out.size) x.2)).out.1
      have x47_1:=fun(x:Later c47)=>(HC _ (below_next HB.out (Nat.le_trans HBW.out HB.out.size) x.2)).out.2.1
      have x47_2:=fun(x:Later c47)=>(HC _ (below_next HB.out (Nat.le_trans HBW.out HB.out.size) x.2)).out.2.2.1
      have x47_3:=fun(x:Later c47)=>(HC _ (below_next HB.out (Nat.le_trans HBW.out HB.out.size) x.2)).out.2.2.2.1
      have x47_4:=fun(x:Later c47)=>(HC _ (below_next HB.out (Nat.le_trans HBW.out HB.out.size) x.2)).out.2.2.2.2.1
      have x47_5:=fun(x:Later c47)=>(HC _ (below_next HB.out (Nat.le_trans HBW.out HB.out.size) x.2)).out.2.2.2.2.2
      refine wp_region_later (by kernel_rfl) (by kernel_rfl) ?_
      repeat (first|go_big_quiet_step (((first|(go_at_call 26;with_reducible refine Later.call (HAAL _).out)|(go_at_call 26;with_reducible refine Later.call (HABL _).out)|(go_at_call 25;with_reducible refine Later.call (HME _).out))))|quiet_step (((first|(go_at_call 26;with_reducible refine Later.call (HAAL _).out)|(go_at_call 26;with_reducible refine Later.call (HABL _).out)|(go_at_call 25;with_reducible refine Later.call (HME _).out)))))
      refine wpQuiet_nil ?_
      intro w47 hw47
      have hb47:=later_below hw47
      clear hw47
      have HB:=Lib.hid (below_next HB.out (Nat.le_trans HBW.out HB.out.size) hb47)
      clear x47_0 x47_1 x47_2 x47_3 x47_4 x47_5
      clear q45_0 q45_1 q45_2 q45_3 q45_4 q45_5 r45_0 r45_1 r45_2
      obtain⟨q47_0,q47_1,q47_2,q47_3,q47_4,q47_5⟩:=(HC _ HB.out).out
      skip
      clear hb47
      have r47_0:=Nat.lt_of_lt_of_le (show w.heap.size<W.heap.size by have:=HWs.out;omega) HB.out.size
      have r47_1:=Nat.lt_of_lt_of_le (show w.heap.size+1<W.heap.size by have:=HWs.out;omega) HB.out.size
      have r47_2:=Nat.lt_of_lt_of_le (show w.heap.size+1+1<W.heap.size by have:=HWs.out;omega) HB.out.size
      go_wp2_with fail
      go_ret
      exact⟨rfl,(HW.out.trans (HB.out.mono (by have:=HWs.out;omega)))⟩
    ·have HFR:Hid (Free p a b):=Lib.hid ⟨HIAA.out,HIBB.out,HNE.out,HNV.out,fun e he=>HA.out e (by rw[List.take_of_length_le (by have:=HM.out;omega)];exact he)⟩
     have HPL:=fun W=>Lib.hid (plain17_any W va ea vn vc en ec)
     have HFA:=fun(W1:World) (hb:Below w.heap.size w W1)=>Lib.hid (Find_one (w:=W1) (vc:=vc) HRP.out HIAA.out (HV.out.below (hb.mono hB)) (HE.out.below (hb.mono hB)) (Nat.le_trans hB hb.size) hec HFP.out)
     have HFB:=fun(W1:World) (hb:Below w.heap.size w W1)=>Lib.hid (Find_one (w:=W1) (vc:=vc) HRP.out HIBB.out (HV.out.below (hb.mono hB)) (HE.out.below (hb.mono hB)) (Nat.le_trans hB hb.size) hec HFP.out)
     rw[←HFR.out.part HRP.out] at HFB
     unfold plcV at HFA HFB
     generalize findP p a (partP p a)=x at HFA HFB
     clear HA HNV HFR HFW HRT HIA HIB
     have eqp:=eq_place x
     obtain⟨wo,rfl⟩: ∃y:World,y=wr:=⟨_,rfl⟩
     have HXV:=Lib.hid (HW.out.trans (HB.out.mono HW.out.size))
     go_wp2_with fail
     clear q45_0 q45_1 q45_2 q45_3 q45_4 q45_5 r45_0 r45_1 r45_2
     go_cut [9,10] (fun v9 v10 wx=> ∃g,v9= .pointer (some ⟨g,0,none⟩)∧v10= .int .i64 0∧wx.rowIs g 65 3 (plF x)∧wo.heap.size≤g∧Below wo.heap.size wo wx)
     case first=>
      have HY:=fun(w':World) (t:Below wo.heap.size wo w')=>Lib.hid (show w'.cell? ⟨w.heap.size,0,none⟩=some (.slice va vn vc)∧w'.cell? ⟨w.heap.size,1,none⟩=some (.slice ea en ec)∧w'.cell? ⟨w.heap.size+1,0,none⟩=some (.int .i64 a.x)∧w'.cell? ⟨w.heap.size+1,1,none⟩=some (.int .i64 a.y) from by
       obtain⟨d0,d1,d2,d3, -⟩:=(HC _ (HB.out.trans (t.mono HB.out.size))).out
       exact⟨d0,d1,d2,d3⟩)
      have HS0:=Lib.hid (Below.refl wo.heap.size wo).drew
      refine wp_region_noPanic ?_
      refine wp_region_par3 9 9 (by kernel_rfl) (by kernel_rfl) (by simp) (by omega) (by kernel_rfl) (by kernel_rfl) (fun w':World=>Below wo.heap.size wo w') ?_
      refine par3_read (v:= ?_) 0 (by simp only[zga,zgb,zgc];rfl) (by kernel_rfl) (by rfl) HS0.out ?_ (fun _ _ _ h=>h) ?_
      rotate_left
      ·(intro w9 hSw;obtain⟨y0,y1,y2,y3⟩:=(HY w9 hSw).out;clear hSw;go_simp;try with_reducible rfl)
      simp only[Act.put,zpa,zpb,zpc]
      refine par3_read (v:= ?_) 2 (by simp only[zga,zgb,zgc];rfl) (by kernel_rfl) (by rfl) HS0.out ?_ (fun _ _ _ h=>h) ?_
      rotate_left
      ·(intro w9 hSw;obtain⟨y0,y1,y2,y3⟩:=(HY w9 hSw).out;clear hSw;go_simp;try with_reducible rfl)
      simp only[Act.put,zpa,zpb,zpc]
      refine par3_nm (fun W0 hW0=> ?_)
      rw[←hW0] at HS0
      clear hW0
      refine par3_two 1 7 (by simp only[zga,zgb,zgc];rfl) (by simp only[zga,zgb,zgc];rfl) (by kernel_rfl) (by rfl) (by rfl) ?_ ?_
      ·refine owp_call (by go_simp;constructor<;>rfl) ?_
       refine(HPL _).out.mono ?_
       rintro z W1 ⟨rfl,hb9⟩
       have HS1:=Lib.hid (below_next HS0.out HS0.out.size hb9)
       refine⟨_,rfl,fun s _=>HS1.out, ?_⟩
       simp only[Act.put,zpa,zpb,zpc]
       clear hb9
       refine par3_two 3 7 (by simp only[zga,zgb,zgc];rfl) (by simp only[zga,zgb,zgc];rfl) (by kernel_rfl) (by rfl) (by rfl) ?_ ?_
       ·refine owp_call (by go_simp;constructor<;>rfl) ?_
        refine(HFA _ (HXV.out.trans (HS1.out.mono HXV.out.size))).out.mono ?_
        rintro z W3 ⟨rfl,hb9⟩
        have HS3:=Lib.hid (below_next HS1.out HS1.out.size hb9)
        refine⟨_,rfl,fun s _=>HS3.out, ?_⟩
        simp only[Act.put,zpa,zpb,zpc]
        refine par3_move (v:= ?_) 4 (by simp only[zga,zgb,zgc];rfl) (by kernel_rfl) (by rfl) ?_ (fun _ _ _ h=>h) ?_
        rotate_left
        ·(intro w9;go_simp;try with_reducible rfl)
        simp only[Act.put,zpa,zpb,zpc]
        refine par3_move (v:= ?_) 5 (by simp only[zga,zgb,zgc];rfl) (by kernel_rfl) (by rfl) ?_ (fun _ _ _ h=>h) ?_
        rotate_left
        ·(intro w9;go_simp;try with_reducible rfl)
        simp only[Act.put,zpa,zpb,zpc]
        refine par3_move (v:= ?_) 6 (by simp only[zga,zgb,zgc];rfl) (by kernel_rfl) (by rfl) ?_ (fun _ _ _ h=>h) ?_
        rotate_left
        ·(intro w9;go_simp;try with_reducible rfl)
        simp only[Act.put,zpa,zpb,zpc]
        clear hb9
        refine par3_one 7 (by simp only[zga,zgb,zgc];rfl) (by kernel_rfl) (by rfl) ?_
        refine owp_val (v:= ?_) (w1:= ?_) ?_ ?_
        rotate_left 2
        ·(go_simp;constructor<;>rfl)
        refine⟨fun s _=>s.alloc s.size _, ?_⟩
        simp only[Act.put,zpa,zpb,zpc]
        have HRA:=Lib.hid (show(W3.alloc (.cells #[.int .i64 0, .int .i64 0, .int .i64 0] 65)).rowIs W3.heap.size 65 3 (plF (0,0,0)) from World.rowIs_alloc W3 #[.int .i64 0, .int .i64 0, .int .i64 0] 65 (plF (0,0,0)) (fun i hi=>by rcases i with _|_|_|i<;>first|rfl|(simp at hi;omega)))
        have HSA:=Lib.hid (HS3.out.alloc HS3.out.size (.cells #[.int .i64 0, .int .i64 0, .int .i64 0] 65))
        refine par3_nm (fun WA hW9=> ?_)
        rw[←hW9] at HRA HSA
        clear hW9
        obtain⟨g1,hg1⟩: ∃g,g=W3.heap.size:=⟨_,rfl⟩
        have hl1:wo.heap.size≤g1:=by rw[hg1];exact HS3.out.size
        rw[←hg1] at HRA ⊢
        clear hg1
        have f0:=World.rowIs.frozen HRA.out 0
        have f1:=World.rowIs.frozen HRA.out 1
        have f2:=World.rowIs.frozen HRA.out 2
        have p0:=World.rowIs.cell HRA.out (i:=0) (by decide)
        have p1:=World.rowIs.cell HRA.out (i:=1) (by decide)
        have p2:=World.rowIs.cell HRA.out (i:=2) (by decide)
        refine par3_one 8 (by simp only[zga,zgb,zgc];rfl) (by kernel_rfl) (by rfl) ?_
        refine owp_skip (w1:= ?_) ?_ ?_
        rotate_left
        ·(go_simp;first|rfl|(constructor<;>rfl))
        refine⟨fun s _=>((s.setCell hl1 _).setCell hl1 _).setCell hl1 _, ?_⟩
        simp only[Act.put,zpa,zpb,zpc]
        clear f0 f1 f2 p0 p1 p2
        refine par3_tail _ (by simp only[List.drop_succ_cons,List.drop_zero];rfl) (by kernel_rfl) ?_
        go_wp2_with fail
        refine NoPanic.normal ?_
        go_step
        first|go_meet|(go_step;go_meet)
        refine⟨g1,rfl,rfl,World.rowIs.congr (World.rowIs.set (World.rowIs.set (World.rowIs.set HRA.out 0 _) 1 _) 2 _) (fun i hi=>by rcases i with _|_|_|i<;>first|rfl|exact absurd hi (by omega)),hl1,((HSA.out.setCell hl1 _).setCell hl1 _).setCell hl1 _⟩
       ·refine owp_val (v:= ?_) (w1:= ?_) ?_ ?_
        rotate_left 2
        ·(go_simp;constructor<;>rfl)
        refine⟨fun s _=>s.alloc s.size _, ?_⟩
        simp only[Act.put,zpa,zpb,zpc]
        have HRA:=Lib.hid (show(W1.alloc (.cells #[.int .i64 0, .int .i64 0, .int .i64 0] 65)).rowIs W1.heap.size 65 3 (plF (0,0,0)) from World.rowIs_alloc W1 #[.int .i64 0, .int .i64 0, .int .i64 0] 65 (plF (0,0,0)) (fun i hi=>by rcases i with _|_|_|i<;>first|rfl|(simp at hi;omega)))
        have HSA:=Lib.hid (HS1.out.alloc HS1.out.size (.cells #[.int .i64 0, .int .i64 0, .int .i64 0] 65))
        refine par3_nm (fun WA hW9=> ?_)
        rw[←hW9] at HRA HSA
        clear hW9
        refine par3_one 3 (by simp only[zga,zgb,zgc];rfl) (by kernel_rfl) (by rfl) ?_
        refine owp_call (by go_simp;constructor<;>rfl) ?_
        refine(HFA _ (HXV.out.trans (HSA.out.mono HXV.out.size))).out.mono ?_
        rintro z W3 ⟨rfl,hb9⟩
        have HS3:=Lib.hid (below_next HSA.out HSA.out.size hb9)
        refine⟨_,rfl,fun s _=>HS3.out, ?_⟩
        simp only[Act.put,zpa,zpb,zpc]
        refine par3_move (v:= ?_) 4 (by simp only[zga,zgb,zgc];rfl) (by kernel_rfl) (by rfl) ?_ (fun _ _ _ h=>h) ?_
        rotate_left
        ·(intro w9;go_simp;try with_reducible rfl)
        simp only[Act.put,zpa,zpb,zpc]
        refine par3_move (v:= ?_) 5 (by simp only[zga,zgb,zgc];rfl) (by kernel_rfl) (by rfl) ?_ (fun _ _ _ h=>h) ?_
        rotate_left
        ·(intro w9;go_simp;try with_reducible rfl)
        simp only[Act.put,zpa,zpb,zpc]
        refine par3_move (v:= ?_) 6 (by simp only[zga,zgb,zgc];rfl) (by kernel_rfl) (by rfl) ?_ (fun _ _ _ h=>h) ?_
        rotate_left
        ·(intro w9;go_simp;try with_reducible rfl)
        simp only[Act.put,zpa,zpb,zpc]
        have HRB:=Lib.hid (rowIs_touch HRA.out (Touch.of_below (F:=[]) hb9) (by simp))
        clear hb9
        obtain⟨g1,hg1⟩: ∃g,g=W1.heap.size:=⟨_,rfl⟩
        have hl1:wo.heap.size≤g1:=by rw[hg1];exact HS1.out.size
        rw[←hg1] at HRB ⊢
        clear hg1
        have f0:=World.rowIs.frozen HRB.out 0
        have f1:=World.rowIs.frozen HRB.out 1
        have f2:=World.rowIs.frozen HRB.out 2
        have p0:=World.rowIs.cell HRB.out (i:=0) (by decide)
        have p1:=World.rowIs.cell HRB.out (i:=1) (by decide)
        have p2:=World.rowIs.cell HRB.out (i:=2) (by decide)
        refine par3_one 8 (by simp only[zga,zgb,zgc];rfl) (by kernel_rfl) (by rfl) ?_
        refine owp_skip (w1:= ?_) ?_ ?_
        rotate_left
        ·(go_simp;first|rfl|(constructor<;>rfl))
        refine⟨fun s _=>((s.setCell hl1 _).setCell hl1 _).setCell hl1 _, ?_⟩
        simp only[Act.put,zpa,zpb,zpc]
        clear f0 f1 f2 p0 p1 p2
        refine par3_tail _ (by simp only[List.drop_succ_cons,List.drop_zero];rfl) (by kernel_rfl) ?_
        go_wp2_with fail
        refine NoPanic.normal ?_
        go_step
        first|go_meet|(go_step;go_meet)
        refine⟨g1,rfl,rfl,World.rowIs.congr (World.rowIs.set (World.rowIs.set (World.rowIs.set HRB.out 0 _) 1 _) 2 _) (fun i hi=>by rcases i with _|_|_|i<;>first|rfl|exact absurd hi (by omega)),hl1,((HS3.out.setCell hl1 _).setCell hl1 _).setCell hl1 _⟩
      ·refine owp_val (v:= ?_) (w1:= ?_) ?_ ?_
       rotate_left 2
       ·(go_simp;constructor<;>rfl)
       refine⟨fun s _=>s.alloc s.size _, ?_⟩
       simp only[Act.put,zpa,zpb,zpc]
       have HRA:=Lib.hid (show(W0.alloc (.cells #[.int .i64 0, .int .i64 0, .int .i64 0] 65)).rowIs W0.heap.size 65 3 (plF (0,0,0)) from World.rowIs_alloc W0 #[.int .i64 0, .int .i64 0, .int .i64 0] 65 (plF (0,0,0)) (fun i hi=>by rcases i with _|_|_|i<;>first|rfl|(simp at hi;omega)))
       have HSA:=Lib.hid (HS0.out.alloc HS0.out.size (.cells #[.int .i64 0, .int .i64 0, .int .i64 0] 65))
       refine par3_nm (fun WA hW9=> ?_)
       rw[←hW9] at HRA HSA
       clear hW9
       refine par3_one 1 (by simp only[zga,zgb,zgc];rfl) (by kernel_rfl) (by rfl) ?_
       refine owp_call (by go_simp;constructor<;>rfl) ?_
       refine(HPL _).out.mono ?_
       rintro z W1 ⟨rfl,hb9⟩
       have HS1:=Lib.hid (below_next HSA.out HSA.out.size hb9)
       refine⟨_,rfl,fun s _=>HS1.out, ?_⟩
       simp only[Act.put,zpa,zpb,zpc]
       have HRB:=Lib.hid (rowIs_touch HRA.out (Touch.of_below (F:=[]) hb9) (by simp))
       clear hb9
       refine par3_one 3 (by simp only[zga,zgb,zgc];rfl) (by kernel_rfl) (by rfl) ?_
       refine owp_call (by go_simp;constructor<;>rfl) ?_
       refine(HFA _ (HXV.out.trans (HS1.out.mono HXV.out.size))).out.mono ?_
       rintro z W3 ⟨rfl,hb9⟩
       have HS3:=Lib.hid (below_next HS1.out HS1.out.size hb9)
       refine⟨_,rfl,fun s _=>HS3.out, ?_⟩
       simp only[Act.put,zpa,zpb,zpc]
       refine par3_move (v:= ?_) 4 (by simp only[zga,zgb,zgc];rfl) (by kernel_rfl) (by rfl) ?_ (fun _ _ _ h=>h) ?_
       rotate_left
       ·(intro w9;go_simp;try with_reducible rfl)
       simp only[Act.put,zpa,zpb,zpc]
       refine par3_move (v:= ?_) 5 (by simp only[zga,zgb,zgc];rfl) (by kernel_rfl) (by rfl) ?_ (fun _ _ _ h=>h) ?_
       rotate_left
       ·(intro w9;go_simp;try with_reducible rfl)
       simp only[Act.put,zpa,zpb,zpc]
       refine par3_move (v:= ?_) 6 (by simp only[zga,zgb,zgc];rfl) (by kernel_rfl) (by rfl) ?_ (fun _ _ _ h=>h) ?_
       rotate_left
       ·(intro w9;go_simp;try with_reducible rfl)
       simp only[Act.put,zpa,zpb,zpc]
       have HRC:=Lib.hid (rowIs_touch HRB.out (Touch.of_below (F:=[]) hb9) (by simp))
       clear hb9
       obtain⟨g1,hg1⟩: ∃g,g=W0.heap.size:=⟨_,rfl⟩
       have hl1:wo.heap.size≤g1:=by rw[hg1];exact HS0.out.size
       rw[←hg1] at HRC ⊢
       clear hg1
       have f0:=World.rowIs.frozen HRC.out 0
       have f1:=World.rowIs.frozen HRC.out 1
       have f2:=World.rowIs.frozen HRC.out 2
       have p0:=World.rowIs.cell HRC.out (i:=0) (by decide)
       have p1:=World.rowIs.cell HRC.out (i:=1) (by decide)
       have p2:=World.rowIs.cell HRC.out (i:=2) (by decide)
       refine par3_one 8 (by simp only[zga,zgb,zgc];rfl) (by kernel_rfl) (by rfl) ?_
       refine owp_skip (w1:= ?_) ?_ ?_
       rotate_left
       ·(go_simp;first|rfl|(constructor<;>rfl))
       refine⟨fun s _=>((s.setCell hl1 _).setCell hl1 _).setCell hl1 _, ?_⟩
       simp only[Act.put,zpa,zpb,zpc]
       clear f0 f1 f2 p0 p1 p2
       refine par3_tail _ (by simp only[List.drop_succ_cons,List.drop_zero];rfl) (by kernel_rfl) ?_
       go_wp2_with fail
       refine NoPanic.normal ?_
       go_step
       first|go_meet|(go_step;go_meet)
       refine⟨g1,rfl,rfl,World.rowIs.congr (World.rowIs.set (World.rowIs.set (World.rowIs.set HRC.out 0 _) 1 _) 2 _) (fun i hi=>by rcases i with _|_|_|i<;>first|rfl|exact absurd hi (by omega)),hl1,((HS3.out.setCell hl1 _).setCell hl1 _).setCell hl1 _⟩
     case rest=>
     obtain⟨g,rfl,rfl,hr1,hg1,hb1⟩:=hcut
     have HR1:=Lib.hid hr1
     have HB:=Lib.hid (HB.out.trans (hb1.mono HB.out.size))
     have HXV:=Lib.hid (HW.out.trans (HB.out.mono HW.out.size))
     clear hr1 hg1 hb1
     obtain⟨wp,rfl⟩: ∃y:World,y=wc:=⟨_,rfl⟩
     go_upto_region 14 with fail
     go_cut [11,12] (fun v9 v10 wx=> ∃g,v9= .pointer (some ⟨g,0,none⟩)∧v10= .int .i64 0∧wx.rowIs g 65 3 (plF x)∧wp.heap.size≤g∧Below wp.heap.size wp wx)
     case first=>
      have HY:=fun(w':World) (t:Below wp.heap.size wp w')=>Lib.hid (show w'.cell? ⟨w.heap.size,0,none⟩=some (.slice va vn vc)∧w'.cell? ⟨w.heap.size,1,none⟩=some (.slice ea en ec)∧w'.cell? ⟨w.heap.size+1+1,0,none⟩=some (.int .i64 b.x)∧w'.cell? ⟨w.heap.size+1+1,1,none⟩=some (.int .i64 b.y) from by
       obtain⟨d0,d1, -, -,d2,d3⟩:=(HC _ (HB.out.trans (t.mono HB.out.size))).out
       exact⟨d0,d1,d2,d3⟩)
      have HS0:=Lib.hid (Below.refl wp.heap.size wp).drew
      refine wp_region_noPanic ?_
      refine wp_region_par3 9 9 (by kernel_rfl) (by kernel_rfl) (by simp) (by omega) (by kernel_rfl) (by kernel_rfl) (fun w':World=>Below wp.heap.size wp w') ?_
      refine par3_read (v:= ?_) 0 (by simp only[zga,zgb,zgc];rfl) (by kernel_rfl) (by rfl) HS0.out ?_ (fun _ _ _ h=>h) ?_
      rotate_left
      ·(intro w9 hSw;obtain⟨y0,y1,y2,y3⟩:=(HY w9 hSw).out;clear hSw;go_simp;try with_reducible rfl)
      simp only[Act.put,zpa,zpb,zpc]
      refine par3_read (v:= ?_) 2 (by simp only[zga,zgb,zgc];rfl) (by kernel_rfl) (by rfl) HS0.out ?_ (fun _ _ _ h=>h) ?_
      rotate_left
      ·(intro w9 hSw;obtain⟨y0,y1,y2,y3⟩:=(HY w9 hSw).out;clear hSw;go_simp;try with_reducible rfl)
      simp only[Act.put,zpa,zpb,zpc]
      refine par3_nm (fun W0 hW0=> ?_)
      rw[←hW0] at HS0
      clear hW0
      refine par3_two 1 7 (by simp only[zga,zgb,zgc];rfl) (by simp only[zga,zgb,zgc];rfl) (by kernel_rfl) (by rfl) (by rfl) ?_ ?_
      ·refine owp_call (by go_simp;constructor<;>rfl) ?_
       refine(HPL _).out.mono ?_
       rintro z W1 ⟨rfl,hb9⟩
       have HS1:=Lib.hid (below_next HS0.out HS0.out.size hb9)
       refine⟨_,rfl,fun s _=>HS1.out, ?_⟩
       simp only[Act.put,zpa,zpb,zpc]
       clear hb9
       refine par3_two 3 7 (by simp only[zga,zgb,zgc];rfl) (by simp only[zga,zgb,zgc];rfl) (by kernel_rfl) (by rfl) (by rfl) ?_ ?_
       ·refine owp_call (by go_simp;constructor<;>rfl) ?_
        refine(HFB _ (HXV.out.trans (HS1.out.mono HXV.out.size))).out.mono ?_
        rintro z W3 ⟨rfl,hb9⟩
        have HS3:=Lib.hid (below_next HS1.out HS1.out.size hb9)
        refine⟨_,rfl,fun s _=>HS3.out, ?_⟩
        simp only[Act.put,zpa,zpb,zpc]
        refine par3_move (v:= ?_) 4 (by simp only[zga,zgb,zgc];rfl) (by kernel_rfl) (by rfl) ?_ (fun _ _ _ h=>h) ?_
        rotate_left
        ·(intro w9;go_simp;try with_reducible rfl)
        simp only[Act.put,zpa,zpb,zpc]
        refine par3_move (v:= ?_) 5 (by simp only[zga,zgb,zgc];rfl) (by kernel_rfl) (by rfl) ?_ (fun _ _ _ h=>h) ?_
        rotate_left
        ·(intro w9;go_simp;try with_reducible rfl)
        simp only[Act.put,zpa,zpb,zpc]
        refine par3_move (v:= ?_) 6 (by simp only[zga,zgb,zgc];rfl) (by kernel_rfl) (by rfl) ?_ (fun _ _ _ h=>h) ?_
        rotate_left
        ·(intro w9;go_simp;try with_reducible rfl)
        simp only[Act.put,zpa,zpb,zpc]
        clear hb9
        refine par3_one 7 (by simp only[zga,zgb,zgc];rfl) (by kernel_rfl) (by rfl) ?_
        refine owp_val (v:= ?_) (w1:= ?_) ?_ ?_
        rotate_left 2
        ·(go_simp;constructor<;>rfl)
        refine⟨fun s _=>s.alloc s.size _, ?_⟩
        simp only[Act.put,zpa,zpb,zpc]
        have HRA:=Lib.hid (show(W3.alloc (.cells #[.int .i64 0, .int .i64 0, .int .i64 0] 65)).rowIs W3.heap.size 65 3 (plF (0,0,0)) from World.rowIs_alloc W3 #[.int .i64 0, .int .i64 0, .int .i64 0] 65 (plF (0,0,0)) (fun i hi=>by rcases i with _|_|_|i<;>first|rfl|(simp at hi;omega)))
        have HSA:=Lib.hid (HS3.out.alloc HS3.out.size (.cells #[.int .i64 0, .int .i64 0, .int .i64 0] 65))
        refine par3_nm (fun WA hW9=> ?_)
        rw[←hW9] at HRA HSA
        clear hW9
        obtain⟨g1,hg1⟩: ∃g,g=W3.heap.size:=⟨_,rfl⟩
        have hl1:wp.heap.size≤g1:=by rw[hg1];exact HS3.out.size
        rw[←hg1] at HRA ⊢
        clear hg1
        have f0:=World.rowIs.frozen HRA.out 0
        have f1:=World.rowIs.frozen HRA.out 1
        have f2:=World.rowIs.frozen HRA.out 2
        have p0:=World.rowIs.cell HRA.out (i:=0) (by decide)
        have p1:=World.rowIs.cell HRA.out (i:=1) (by decide)
        have p2:=World.rowIs.cell HRA.out (i:=2) (by decide)
        refine par3_one 8 (by simp only[zga,zgb,zgc];rfl) (by kernel_rfl) (by rfl) ?_
        refine owp_skip (w1:= ?_) ?_ ?_
        rotate_left
        ·(go_simp;first|rfl|(constructor<;>rfl))
        refine⟨fun s _=>((s.setCell hl1 _).setCell hl1 _).setCell hl1 _, ?_⟩
        simp only[Act.put,zpa,zpb,zpc]
        clear f0 f1 f2 p0 p1 p2
        refine par3_tail _ (by simp only[List.drop_succ_cons,List.drop_zero];rfl) (by kernel_rfl) ?_
        go_wp2_with fail
        refine NoPanic.normal ?_
        go_step
        first|go_meet|(go_step;go_meet)
        refine⟨g1,rfl,rfl,World.rowIs.congr (World.rowIs.set (World.rowIs.set (World.rowIs.set HRA.out 0 _) 1 _) 2 _) (fun i hi=>by rcases i with _|_|_|i<;>first|rfl|exact absurd hi (by omega)),hl1,((HSA.out.setCell hl1 _).setCell hl1 _).setCell hl1 _⟩
       ·refine owp_val (v:= ?_) (w1:= ?_) ?_ ?_
        rotate_left 2
        ·(go_simp;constructor<;>rfl)
        refine⟨fun s _=>s.alloc s.size _, ?_⟩
        simp only[Act.put,zpa,zpb,zpc]
        have HRA:=Lib.hid (show(W1.alloc (.cells #[.int .i64 0, .int .i64 0, .int .i64 0] 65)).rowIs W1.heap.size 65 3 (plF (0,0,0)) from World.rowIs_alloc W1 #[.int .i64 0, .int .i64 0, .int .i64 0] 65 (plF (0,0,0)) (fun i hi=>by rcases i with _|_|_|i<;>first|rfl|(simp at hi;omega)))
        have HSA:=Lib.hid (HS1.out.alloc HS1.out.size (.cells #[.int .i64 0, .int .i64 0, .int .i64 0] 65))
        refine par3_nm (fun WA hW9=> ?_)
        rw[←hW9] at HRA HSA
        clear hW9
        refine par3_one 3 (by simp only[zga,zgb,zgc];rfl) (by kernel_rfl) (by rfl) ?_
        refine owp_call (by go_simp;constructor<;>rfl) ?_
        refine(HFB _ (HXV.out.trans (HSA.out.mono HXV.out.size))).out.mono ?_
        rintro z W3 ⟨rfl,hb9⟩
        have HS3:=Lib.hid (below_next HSA.out HSA.out.size hb9)
        refine⟨_,rfl,fun s _=>HS3.out, ?_⟩
        simp only[Act.put,zpa,zpb,zpc]
        refine par3_move (v:= ?_) 4 (by simp only[zga,zgb,zgc];rfl) (by kernel_rfl) (by rfl) ?_ (fun _ _ _ h=>h) ?_
        rotate_left
        ·(intro w9;go_simp;try with_reducible rfl)
        simp only[Act.put,zpa,zpb,zpc]
        refine par3_move (v:= ?_) 5 (by simp only[zga,zgb,zgc];rfl) (by kernel_rfl) (by rfl) ?_ (fun _ _ _ h=>h) ?_
        rotate_left
        ·(intro w9;go_simp;try with_reducible rfl)
        simp only[Act.put,zpa,zpb,zpc]
        refine par3_move (v:= ?_) 6 (by simp only[zga,zgb,zgc];rfl) (by kernel_rfl) (by rfl) ?_ (fun _ _ _ h=>h) ?_
        rotate_left
        ·(intro w9;go_simp;try with_reducible rfl)
        simp only[Act.put,zpa,zpb,zpc]
        have HRB:=Lib.hid (rowIs_touch HRA.out (Touch.of_below (F:=[]) hb9) (by simp))
        clear hb9
        obtain⟨g1,hg1⟩: ∃g,g=W1.heap.size:=⟨_,rfl⟩
        have hl1:wp.heap.size≤g1:=by rw[hg1];exact HS1.out.size
        rw[←hg1] at HRB ⊢
        clear hg1
        have f0:=World.rowIs.frozen HRB.out 0
        have f1:=World.rowIs.frozen HRB.out 1
        have f2:=World.rowIs.frozen HRB.out 2
        have p0:=World.rowIs.cell HRB.out (i:=0) (by decide)
        have p1:=World.rowIs.cell HRB.out (i:=1) (by decide)
        have p2:=World.rowIs.cell HRB.out (i:=2) (by decide)
        refine par3_one 8 (by simp only[zga,zgb,zgc];rfl) (by kernel_rfl) (by rfl) ?_
        refine owp_skip (w1:= ?_) ?_ ?_
        rotate_left
        ·(go_simp;first|rfl|(constructor<;>rfl))
        refine⟨fun s _=>((s.setCell hl1 _).setCell hl1 _).setCell hl1 _, ?_⟩
        simp only[Act.put,zpa,zpb,zpc]
        clear f0 f1 f2 p0 p1 p2
        refine par3_tail _ (by simp only[List.drop_succ_cons,List.drop_zero];rfl) (by kernel_rfl) ?_
        go_wp2_with fail
        refine NoPanic.normal ?_
        go_step
        first|go_meet|(go_step;go_meet)
        refine⟨g1,rfl,rfl,World.rowIs.congr (World.rowIs.set (World.rowIs.set (World.rowIs.set HRB.out 0 _) 1 _) 2 _) (fun i hi=>by rcases i with _|_|_|i<;>first|rfl|exact absurd hi (by omega)),hl1,((HS3.out.setCell hl1 _).setCell hl1 _).setCell hl1 _⟩
      ·refine owp_val (v:= ?_) (w1:= ?_) ?_ ?_
       rotate_left 2
       ·(go_simp;constructor<;>rfl)
       refine⟨fun s _=>s.alloc s.size _, ?_⟩
       simp only[Act.put,zpa,zpb,zpc]
       have HRA:=Lib.hid (show(W0.alloc (.cells #[.int .i64 0, .int .i64 0, .int .i64 0] 65)).rowIs W0.heap.size 65 3 (plF (0,0,0)) from World.rowIs_alloc W0 #[.int .i64 0, .int .i64 0, .int .i64 0] 65 (plF (0,0,0)) (fun i hi=>by rcases i with _|_|_|i<;>first|rfl|(simp at hi;omega)))
       have HSA:=Lib.hid (HS0.out.alloc HS0.out.size (.cells #[.int .i64 0, .int .i64 0, .int .i64 0] 65))
       refine par3_nm (fun WA hW9=> ?_)
       rw[←hW9] at HRA HSA
       clear hW9
       refine par3_one 1 (by simp only[zga,zgb,zgc];rfl) (by kernel_rfl) (by rfl) ?_
       refine owp_call (by go_simp;constructor<;>rfl) ?_
       refine(HPL _).out.mono ?_
       rintro z W1 ⟨rfl,hb9⟩
       have HS1:=Lib.hid (below_next HSA.out HSA.out.size hb9)
       refine⟨_,rfl,fun s _=>HS1.out, ?_⟩
       simp only[Act.put,zpa,zpb,zpc]
       have HRB:=Lib.hid (rowIs_touch HRA.out (Touch.of_below (F:=[]) hb9) (by simp))
       clear hb9
       refine par3_one 3 (by simp only[zga,zgb,zgc];rfl) (by kernel_rfl) (by rfl) ?_
       refine owp_call (by go_simp;constructor<;>rfl) ?_
       refine(HFB _ (HXV.out.trans (HS1.out.mono HXV.out.size))).out.mono ?_
       rintro z W3 ⟨rfl,hb9⟩
       have HS3:=Lib.hid (below_next HS1.out HS1.out.size hb9)
       refine⟨_,rfl,fun s _=>HS3.out, ?_⟩
       simp only[Act.put,zpa,zpb,zpc]
       refine par3_move (v:= ?_) 4 (by simp only[zga,zgb,zgc];rfl) (by kernel_rfl) (by rfl) ?_ (fun _ _ _ h=>h) ?_
       rotate_left
       ·(intro w9;go_simp;try with_reducible rfl)
       simp only[Act.put,zpa,zpb,zpc]
       refine par3_move (v:= ?_) 5 (by simp only[zga,zgb,zgc];rfl) (by kernel_rfl) (by rfl) ?_ (fun _ _ _ h=>h) ?_
       rotate_left
       ·(intro w9;go_simp;try with_reducible rfl)
       simp only[Act.put,zpa,zpb,zpc]
       refine par3_move (v:= ?_) 6 (by simp only[zga,zgb,zgc];rfl) (by kernel_rfl) (by rfl) ?_ (fun _ _ _ h=>h) ?_
       rotate_left
       ·(intro w9;go_simp;try with_reducible rfl)
       simp only[Act.put,zpa,zpb,zpc]
       have HRC:=Lib.hid (rowIs_touch HRB.out (Touch.of_below (F:=[]) hb9) (by simp))
       clear hb9
       obtain⟨g1,hg1⟩: ∃g,g=W0.heap.size:=⟨_,rfl⟩
       have hl1:wp.heap.size≤g1:=by rw[hg1];exact HS0.out.size
       rw[←hg1] at HRC ⊢
       clear hg1
       have f0:=World.rowIs.frozen HRC.out 0
       have f1:=World.rowIs.frozen HRC.out 1
       have f2:=World.rowIs.frozen HRC.out 2
       have p0:=World.rowIs.cell HRC.out (i:=0) (by decide)
       have p1:=World.rowIs.cell HRC.out (i:=1) (by decide)
       have p2:=World.rowIs.cell HRC.out (i:=2) (by decide)
       refine par3_one 8 (by simp only[zga,zgb,zgc];rfl) (by kernel_rfl) (by rfl) ?_
       refine owp_skip (w1:= ?_) ?_ ?_
       rotate_left
       ·(go_simp;first|rfl|(constructor<;>rfl))
       refine⟨fun s _=>((s.setCell hl1 _).setCell hl1 _).setCell hl1 _, ?_⟩
       simp only[Act.put,zpa,zpb,zpc]
       clear f0 f1 f2 p0 p1 p2
       refine par3_tail _ (by simp only[List.drop_succ_cons,List.drop_zero];rfl) (by kernel_rfl) ?_
       go_wp2_with fail
       refine NoPanic.normal ?_
       go_step
       first|go_meet|(go_step;go_meet)
       refine⟨g1,rfl,rfl,World.rowIs.congr (World.rowIs.set (World.rowIs.set (World.rowIs.set HRC.out 0 _) 1 _) 2 _) (fun i hi=>by rcases i with _|_|_|i<;>first|rfl|exact absurd hi (by omega)),hl1,((HS3.out.setCell hl1 _).setCell hl1 _).setCell hl1 _⟩
     case rest=>
     obtain⟨k2,rfl,rfl,hr2,hg2,hb2⟩:=hcut
     have hr1:=rowIs_touch HR1.out (Touch.of_below (F:=[]) hb2) (by simp)
     have HB:=Lib.hid (HB.out.trans (hb2.mono HB.out.size))
     have u0:wc.cell? ⟨g,0,none⟩=some (.int .i64 x.1):=World.rowIs.cell hr1 (i:=0) (by decide)
     have u1:wc.cell? ⟨g,1,none⟩=some (.int .i64 x.2.1):=World.rowIs.cell hr1 (i:=1) (by decide)
     have u2:wc.cell? ⟨g,2,none⟩=some (.int .i64 x.2.2):=World.rowIs.cell hr1 (i:=2) (by decide)
     have v0:wc.cell? ⟨k2,0,none⟩=some (.int .i64 x.1):=World.rowIs.cell hr2 (i:=0) (by decide)
     have v1:wc.cell? ⟨k2,1,none⟩=some (.int .i64 x.2.1):=World.rowIs.cell hr2 (i:=1) (by decide)
     have v2:wc.cell? ⟨k2,2,none⟩=some (.int .i64 x.2.2):=World.rowIs.cell hr2 (i:=2) (by decide)
     clear hr1 hr2 hg2 hb2
     go_wp2_with fail
     go_ret
     exact⟨rfl,(HW.out.trans (HB.out.mono (by have:=HWs.out;omega)))⟩
end Go.Proofs.Ythopjhifepijiaa
