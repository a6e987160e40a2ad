/- Lemmas on the way to the statement. -/
import Derived.Test.YthopjhifepijiaaJ18
set_option linter.unusedSimpArgs false
set_option linter.unusedVariables false
namespace Go.Proofs.Ythopjhifepijiaa
open Go.RowKit Go.Joins
theorem withinD_eq (p:PL) (R:List Hf) (q:Pt):withinD p R q=withinPr p R q:=by
 unfold withinD withinPr
 rw[rightR_eq,show(R.all fun h=>hasE p.es h.edge)=knownB p R from rfl]
 cases hr:rightB p
 ·rfl
 cases hk:knownB p R
 ·rfl
 cases hq:inB q
 ·rfl
 rw[known_lines hk]
 have r:=rightB_iff.1 hr
 rw[withinR_eq hq (r.lines_in (fun x hx=>known_mem (List.all_eq_true.1 hk x hx)))]
 simp
set_option maxRecDepth 100000 in
set_option maxHeartbeats 8000000 in
theorem realmWithin_walk {w:World} {B vn vc en ec n c:Nat} {va ea a:Option Addr} {p:PL} {R:List Hf} (q:Pt) (hv:VsIn w B va vn p.vs) (he:EsIn w B ea en p.es) (hr:HsIn w B a n R) (hB:B≤w.heap.size) (hec:en≤ec) (hfit:FitPL p):
  Calls Try.prog 4 #[.agg #[.slice va vn vc, .slice ea en ec], .slice a n c, .agg #[.int .i64 q.x, .int .i64 q.y]] w fun e w'=>e= .returned (.bool true)∧Below w.heap.size w w':=by
 have HAW:=fun W=>Lib.hid (awake17_any W)
 have HFW:=fun W=>Lib.hid (few17_any W va ea vn vc en ec)
 by_cases hf:vn≤30∧en≤30
 ·rw[decide_eq_true hf] at HFW
  by_cases h1:100<n
  ·clear hv he hr hf
   go_enter Try.func4,Try.ntmps4
   go_wp2_with fail
   first|refine wp_name (fun W hW=> ?_)|refine calls_name (fun W hW=> ?_)
   have HW:Hid (Below w.heap.size w W):=Lib.hid (by rw[←hW];repeat (first|exact Below.refl _ _|refine below_alloc ?_))
   have HWs:Hid (W.heap.size=w.heap.size+1+1):=Lib.hid (by rw[←hW];simp)
   have HBW:Hid (W.heap.size≤W.heap.size):=Lib.hid (by have:=HWs.out;omega)
   have HC:=fun(W1:World) (hb:Below (W.heap.size) W W1)=>Lib.hid (show W1.cell? ⟨w.heap.size,0,none⟩=some (.slice va vn vc)∧W1.cell? ⟨w.heap.size,1,none⟩=some (.slice ea en ec)∧W1.cell? ⟨w.heap.size+1,0,none⟩=some (.int .i64 q.x)∧W1.cell? ⟨w.heap.size+1,1,none⟩=some (.int .i64 q.y) from by exact⟨(hb.cell (p:=⟨w.heap.size,0,none⟩) (by show w.heap.size<W.heap.size;have:=HWs.out;omega)).trans (by rw[←hW];clear hW;go_simp),(hb.cell (p:=⟨w.heap.size,1,none⟩) (by show w.heap.size<W.heap.size;have:=HWs.out;omega)).trans (by rw[←hW];clear hW;go_simp),(hb.cell (p:=⟨w.heap.size+1,0,none⟩) (by show w.heap.size+1<W.heap.size;have:=HWs.out;omega)).trans (by rw[←hW];clear hW;go_simp),(hb.cell (p:=⟨w.heap.size+1,1,none⟩) (by show w.heap.size+1<W.heap.size;have:=HWs.out;omega)).trans (by rw[←hW];clear hW;go_simp)⟩)
   have HB:=Lib.hid (Below.refl (W.heap.size) W)
   clear hW
   obtain⟨q1_0,q1_1,q1_2,q1_3⟩:=(HC _ HB.out).out
   have r1_0:=Nat.lt_of_lt_of_le (show w.heap.size<W.heap.size by have:=HWs.out;omega) HB.out.size
   have r1_1:=Nat.lt_of_lt_of_le (show w.heap.size+1<W.heap.size by have:=HWs.out;omega) HB.out.size
   refine((HFW _).out).mono ?_
   rintro e w1 ⟨rfl,hb2⟩
   have HB:=Lib.hid (below_next (below_next HB.out (Nat.le_trans HBW.out HB.out.size) (by repeat (first|exact Below.refl _ _|refine below_alloc ?_))) (by first|exact(Nat.le_trans HBW.out HB.out.size)|(simp;done)|(have h1:=HBW.out;have h2:=HB.out.size;simp;omega)) hb2)
   clear q1_0 q1_1 q1_2 q1_3 r1_0 r1_1
   obtain⟨q2_0,q2_1,q2_2,q2_3⟩:=(HC _ HB.out).out
   clear hb2
   have r2_0:=Nat.lt_of_lt_of_le (show w.heap.size<W.heap.size by have:=HWs.out;omega) HB.out.size
   have r2_1:=Nat.lt_of_lt_of_le (show w.heap.size+1<W.heap.size by have:=HWs.out;omega) HB.out.size
   go_wp2_with fail
   refine((HAW _).out).mono ?_
   rintro e w2 ⟨rfl,hb3⟩
   have HB:=Lib.hid (below_next (below_next HB.out (Nat.le_trans HBW.out HB.out.size) (by repeat (first|exact Below.refl _ _|refine below_alloc ?_))) (by first|exact(Nat.le_trans HBW.out HB.out.size)|(simp;done)|(have h1:=HBW.out;have h2:=HB.out.size;simp;omega)) hb3)
   clear q2_0 q2_1 q2_2 q2_3 r2_0 r2_1
   obtain⟨q3_0,q3_1,q3_2,q3_3⟩:=(HC _ HB.out).out
   clear hb3
   have r3_0:=Nat.lt_of_lt_of_le (show w.heap.size<W.heap.size by have:=HWs.out;omega) HB.out.size
   have r3_1:=Nat.lt_of_lt_of_le (show w.heap.size+1<W.heap.size by have:=HWs.out;omega) HB.out.size
   go_wp2_with fail
   go_ret
   exact⟨rfl,(HW.out.trans (HB.out.mono (by have:=HWs.out;omega)))⟩
  ·have HPL:=fun W=>Lib.hid (plain17_any W va ea vn vc en ec)
   have HWP:=fun(W:World) (hb:Below w.heap.size w W)=>Lib.hid (within_any (w:=W) (vc:=vc) (c:=c) q (hv.below (hb.mono hB)) (he.below (hb.mono hB)) (hr.below (hb.mono hB)) (Nat.le_trans hB hb.size) (by omega) (by omega) hec hfit (by omega))
   have HWD:=fun(W:World) (hb:Below w.heap.size w W)=>Lib.hid (r17within_any (w:=W) (vc:=vc) (c:=c) q (hv.below (hb.mono hB)) (he.below (hb.mono hB)) (hr.below (hb.mono hB)) (Nat.le_trans hB hb.size) hec (by omega) (by omega) (by omega))
   rw[withinD_eq] at HWD
   generalize withinPr p R q=z at*
   clear hv he hr hf
   go_enter Try.func4,Try.ntmps4
   go_wp2_with fail
   first|refine wp_name (fun W hW=> ?_)|refine calls_name (fun W hW=> ?_)
   have HW:Hid (Below w.heap.size w W):=Lib.hid (by rw[←hW];repeat (first|exact Below.refl _ _|refine below_alloc ?_))
   have HWs:Hid (W.heap.size=w.heap.size+1+1):=Lib.hid (by rw[←hW];simp)
   have HBW:Hid (W.heap.size≤W.heap.size):=Lib.hid (by have:=HWs.out;omega)
   have HC:=fun(W1:World) (hb:Below (W.heap.size) W W1)=>Lib.hid (show W1.cell? ⟨w.heap.size,0,none⟩=some (.slice va vn vc)∧W1.cell? ⟨w.heap.size,1,none⟩=some (.slice ea en ec)∧W1.cell? ⟨w.heap.size+1,0,none⟩=some (.int .i64 q.x)∧W1.cell? ⟨w.heap.size+1,1,none⟩=some (.int .i64 q.y) from by exact⟨(hb.cell (p:=⟨w.heap.size,0,none⟩) (by show w.heap.size<W.heap.size;have:=HWs.out;omega)).trans (by rw[←hW];clear hW;go_simp),(hb.cell (p:=⟨w.heap.size,1,none⟩) (by show w.heap.size<W.heap.size;have:=HWs.out;omega)).trans (by rw[←hW];clear hW;go_simp),(hb.cell (p:=⟨w.heap.size+1,0,none⟩) (by show w.heap.size+1<W.heap.size;have:=HWs.out;omega)).trans (by rw[←hW];clear hW;go_simp),(hb.cell (p:=⟨w.heap.size+1,1,none⟩) (by show w.heap.size+1<W.heap.size;have:=HWs.out;omega)).trans (by rw[←hW];clear hW;go_simp)⟩)
   have HB:=Lib.hid (Below.refl (W.heap.size) W)
   clear hW
   obtain⟨q5_0,q5_1,q5_2,q5_3⟩:=(HC _ HB.out).out
   have r5_0:=Nat.lt_of_lt_of_le (show w.heap.size<W.heap.size by have:=HWs.out;omega) HB.out.size
   have r5_1:=Nat.lt_of_lt_of_le (show w.heap.size+1<W.heap.size by have:=HWs.out;omega) HB.out.size
   refine((HFW _).out).mono ?_
   rintro e w1 ⟨rfl,hb6⟩
   have HB:=Lib.hid (below_next (below_next HB.out (Nat.le_trans HBW.out HB.out.size) (by repeat (first|exact Below.refl _ _|refine below_alloc ?_))) (by first|exact(Nat.le_trans HBW.out HB.out.size)|(simp;done)|(have h1:=HBW.out;have h2:=HB.out.size;simp;omega)) hb6)
   clear q5_0 q5_1 q5_2 q5_3 r5_0 r5_1
   obtain⟨q6_0,q6_1,q6_2,q6_3⟩:=(HC _ HB.out).out
   clear hb6
   have r6_0:=Nat.lt_of_lt_of_le (show w.heap.size<W.heap.size by have:=HWs.out;omega) HB.out.size
   have r6_1:=Nat.lt_of_lt_of_le (show w.heap.size+1<W.heap.size by have:=HWs.out;omega) HB.out.size
   go_wp2_with fail
   refine wp_name (fun c7 hc7=> ?_)
   have HB:=Lib.hid (below_name (below_next HB.out (Nat.le_trans HBW.out HB.out.size) (by repeat (first|exact Below.refl _ _|refine below_alloc ?_))) hc7)
   have YB:=fun(x:Later c7)=>HW.out.trans ((below_next HB.out (Nat.le_trans HBW.out HB.out.size) x.2).mono HW.out.size);have HWPL:=fun(x:Later c7)=>HWP x.1 (YB x);have HWDL:=fun(x:Later c7)=>HWD x.1 (YB x);clear YB
   clear hc7
   have x7_0:=fun(x:Later c7)=>(HC _ (below_next HB.out (Nat.le_trans HBW.out HB.out.size) x.2)).out.1
   have x7_1:=fun(x:Later c7)=>(HC _ (below_next HB.out (Nat.le_trans HBW.out HB.out.size) x.2)).out.2.1
   have x7_2:=fun(x:Later c7)=>(HC _ (below_next HB.out (Nat.le_trans HBW.out HB.out.size) x.2)).out.2.2.1
   have x7_3:=fun(x:Later c7)=>(HC _ (below_next HB.out (Nat.le_trans HBW.out HB.out.size) x.2)).out.2.2.2
   refine wp_region_later (by kernel_rfl) (by kernel_rfl) ?_
   repeat (first|go_big_quiet_step (((first|(go_at_call 8;with_reducible refine Later.call (HAW _).out)|(go_at_call 11;with_reducible refine Later.call (HPL _).out)|(go_at_call 20;with_reducible refine Later.call (HWPL _).out)|(go_at_call 21;with_reducible refine Later.call (HWDL _).out))))|quiet_step (((first|(go_at_call 8;with_reducible refine Later.call (HAW _).out)|(go_at_call 11;with_reducible refine Later.call (HPL _).out)|(go_at_call 20;with_reducible refine Later.call (HWPL _).out)|(go_at_call 21;with_reducible refine Later.call (HWDL _).out)))))
   refine wpQuiet_nil ?_
   intro w7 hw7
   have hb7:=later_below hw7
   clear hw7
   have HB:=Lib.hid (below_next HB.out (Nat.le_trans HBW.out HB.out.size) hb7)
   clear x7_0 x7_1 x7_2 x7_3
   clear q6_0 q6_1 q6_2 q6_3 r6_0 r6_1
   obtain⟨q7_0,q7_1,q7_2,q7_3⟩:=(HC _ HB.out).out
   skip
   clear hb7
   have r7_0:=Nat.lt_of_lt_of_le (show w.heap.size<W.heap.size by have:=HWs.out;omega) HB.out.size
   have r7_1:=Nat.lt_of_lt_of_le (show w.heap.size+1<W.heap.size by have:=HWs.out;omega) HB.out.size
   go_wp2_with fail
   go_ret
   exact⟨by simp,(HW.out.trans (HB.out.mono (by have:=HWs.out;omega)))⟩
 ·rw[decide_eq_false hf] at HFW
  clear hv he hr hf
  go_enter Try.func4,Try.ntmps4
  go_wp2_with fail
  first|refine wp_name (fun W hW=> ?_)|refine calls_name (fun W hW=> ?_)
  have HW:Hid (Below w.heap.size w W):=Lib.hid (by rw[←hW];repeat (first|exact Below.refl _ _|refine below_alloc ?_))
  have HWs:Hid (W.heap.size=w.heap.size+1+1):=Lib.hid (by rw[←hW];simp)
  have HBW:Hid (W.heap.size≤W.heap.size):=Lib.hid (by have:=HWs.out;omega)
  have HC:=fun(W1:World) (hb:Below (W.heap.size) W W1)=>Lib.hid (show W1.cell? ⟨w.heap.size,0,none⟩=some (.slice va vn vc)∧W1.cell? ⟨w.heap.size,1,none⟩=some (.slice ea en ec)∧W1.cell? ⟨w.heap.size+1,0,none⟩=some (.int .i64 q.x)∧W1.cell? ⟨w.heap.size+1,1,none⟩=some (.int .i64 q.y) from by exact⟨(hb.cell (p:=⟨w.heap.size,0,none⟩) (by show w.heap.size<W.heap.size;have:=HWs.out;omega)).trans (by rw[←hW];clear hW;go_simp),(hb.cell (p:=⟨w.heap.size,1,none⟩) (by show w.heap.size<W.heap.size;have:=HWs.out;omega)).trans (by rw[←hW];clear hW;go_simp),(hb.cell (p:=⟨w.heap.size+1,0,none⟩) (by show w.heap.size+1<W.heap.size;have:=HWs.out;omega)).trans (by rw[←hW];clear hW;go_simp),(hb.cell (p:=⟨w.heap.size+1,1,none⟩) (by show w.heap.size+1<W.heap.size;have:=HWs.out;omega)).trans (by rw[←hW];clear hW;go_simp)⟩)
  have HB:=Lib.hid (Below.refl (W.heap.size) W)
  clear hW
  obtain⟨q9_0,q9_1,q9_2,q9_3⟩:=(HC _ HB.out).out
  have r9_0:=Nat.lt_of_lt_of_le (show w.heap.size<W.heap.size by have:=HWs.out;omega) HB.out.size
  have r9_1:=Nat.lt_of_lt_of_le (show w.heap.size+1<W.heap.size by have:=HWs.out;omega) HB.out.size
  refine((HFW _).out).mono ?_
  rintro e w1 ⟨rfl,hb10⟩
  have HB:=Lib.hid (below_next (below_next HB.out (Nat.le_trans HBW.out HB.out.size) (by repeat (first|exact Below.refl _ _|refine below_alloc ?_))) (by first|exact(Nat.le_trans HBW.out HB.out.size)|(simp;done)|(have h1:=HBW.out;have h2:=HB.out.size;simp;omega)) hb10)
  clear q9_0 q9_1 q9_2 q9_3 r9_0 r9_1
  obtain⟨q10_0,q10_1,q10_2,q10_3⟩:=(HC _ HB.out).out
  clear hb10
  have r10_0:=Nat.lt_of_lt_of_le (show w.heap.size<W.heap.size by have:=HWs.out;omega) HB.out.size
  have r10_1:=Nat.lt_of_lt_of_le (show w.heap.size+1<W.heap.size by have:=HWs.out;omega) HB.out.size
  go_wp2_with fail
  refine((HAW _).out).mono ?_
  rintro e w2 ⟨rfl,hb11⟩
  have HB:=Lib.hid (below_next (below_next HB.out (Nat.le_trans HBW.out HB.out.size) (by repeat (first|exact Below.refl _ _|refine below_alloc ?_))) (by first|exact(Nat.le_trans HBW.out HB.out.size)|(simp;done)|(have h1:=HBW.out;have h2:=HB.out.size;simp;omega)) hb11)
  clear q10_0 q10_1 q10_2 q10_3 r10_0 r10_1
  obtain⟨q11_0,q11_1,q11_2,q11_3⟩:=(HC _ HB.out).out
  clear hb11
  have r11_0:=Nat.lt_of_lt_of_le (show w.heap.size<W.heap.size by have:=HWs.out;omega) HB.out.size
  have r11_1:=Nat.lt_of_lt_of_le (show w.heap.size+1<W.heap.size by have:=HWs.out;omega) HB.out.size
  go_wp2_with fail
  go_ret
  exact⟨rfl,(HW.out.trans (HB.out.mono (by have:=HWs.out;omega)))⟩
end Go.Proofs.Ythopjhifepijiaa
