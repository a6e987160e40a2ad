/- Lemmas on the way to the statement. -/
import Derived.Test.YthopjhifepijiaaJ6
set_option linter.unusedSimpArgs false
set_option linter.unusedVariables false
namespace Go.Proofs.Ythopjhifepijiaa
open Go.RowKit
open Go.Maps (Keyed)
set_option maxRecDepth 100000 in
set_option maxHeartbeats 8000000 in
theorem right_any {w:World} {B vn vc en ec:Nat} {va ea:Option Addr} {p:PL} (hv:VsIn w B va vn p.vs) (he:EsIn w B ea en p.es) (hB:B≤w.heap.size) (hn:vn≤100000) (hm:en≤100000) (hec:en≤ec) (hfit:FitPL p):
  Calls Try.prog 12 #[.agg #[.slice va vn vc, .slice ea en ec]] w fun e w'=>e= .returned (.bool (rightB p))∧Below w.heap.size w w':=by
 have HV:=Lib.hid hv
 have HE:=Lib.hid he
 have HF:=Lib.hid hfit
 have hmm:= @run_makeMap Try.prog
 clear hv he hfit
 by_cases l1:512<vn
 ·rw[rightB_no (fun h=>by have:=h.nv;have:=HV.out.1;omega)]
  go_enter Try.func12,Try.ntmps12
  go_wp2_with fail
  go_ret
  exact⟨rfl,below_alloc (Below.refl _ _)⟩
 ·by_cases l2:1024<en
  ·rw[rightB_no (fun h=>by have:=h.ne;have:=HE.out.1;omega)]
   go_enter Try.func12,Try.ntmps12
   go_wp2_with fail
   go_ret
   exact⟨rfl,below_alloc (Below.refl _ _)⟩
  ·go_enter Try.func12,Try.ntmps12
   go_wp2_with fail
   first|refine wp_name (fun W hW=> ?_)|refine calls_name (fun W hW=> ?_)
   have HW:Hid (Below w.heap.size w W):=Lib.hid (by rw[←hW];repeat (first|exact Below.refl _ _|refine below_alloc ?_))
   have HWs:Hid (W.heap.size=w.heap.size+1+1+1):=Lib.hid (by rw[←hW];simp)
   skip
   have HC:=fun(W1:World) (hb:Touch (rgF w) W W1)=>Lib.hid (show W1.cell? ⟨w.heap.size,0,none⟩=some (.slice va vn vc)∧W1.cell? ⟨w.heap.size,1,none⟩=some (.slice ea en ec) from by exact⟨(touch_cell hb (show w.heap.size<W.heap.size by have:=HWs.out;omega) (by first|(simp;done)|(simp;omega)|(intro hm;simp at hm;omega))).trans (by rw[←hW];clear hW;go_simp),(touch_cell hb (show w.heap.size<W.heap.size by have:=HWs.out;omega) (by first|(simp;done)|(simp;omega)|(intro hm;simp at hm;omega))).trans (by rw[←hW];clear hW;go_simp)⟩)
   have HB:=Lib.hid (Touch.refl (rgF w) W)
   obtain⟨q1_0,q1_1⟩:=(HC _ HB.out).out
   have r1_0:=Nat.lt_of_lt_of_le (show w.heap.size<W.heap.size by have:=HWs.out;omega) HB.out.size
   have HS:Hid (RgtV w W W p 0):=Lib.hid (by
    have e:(w.alloc (.cells #[.slice va vn vc, .slice ea en ec] 30)).heap.size=w.heap.size+1:=by simp
    have e2:((w.alloc (.cells #[.slice va vn vc, .slice ea en ec] 30)).alloc (.map #[] 0)).heap.size=w.heap.size+1+1:=by simp
    have h1:=MapT.made (w.alloc (.cells #[.slice va vn vc, .slice ea en ec] 30)) Try.prog 3 ekI ptV
    have h2:=MapT.made ((w.alloc (.cells #[.slice va vn vc, .slice ea en ec] 30)).alloc (.map #[] 0)) Try.prog 51 ptV evB
    rw[e] at h1
    rw[e2] at h2
    exact⟨Nat.zero_le _,fun i v hi=>absurd hi (by omega),by rw[←hW];exact MapT.alloc h1 _,by rw[←hW];exact h2,Touch.refl _ _⟩)
   have HFF:Hid (∀b∈rgF w,w.heap.size≤b):=Lib.hid (by intro b hb;simp at hb;omega)
   clear hW
   go_wp2_with fail
   clear q1_0 q1_1 r1_0
   go_loopw [5,30] (fun la v wr=> ∃k:Nat,k≤vn∧v= .int .i64 k∧la= .int .i64 (pid p.vs k)∧RgtV w W wr p k) (fun _ v _=>vn - (intOf v).toNat)
   case atStart=>exact⟨0,Nat.zero_le _,rfl,rfl,HS.out⟩
   case round=>
    clear HS HB
    obtain⟨k,hk,rfl,rfl,hR⟩:=hrel
    have HR:=Lib.hid hR
    have HB:=Lib.hid hR.tch
    clear hR
    obtain⟨q2_0,q2_1⟩:=(HC _ HB.out).out
    have r2_0:=Nat.lt_of_lt_of_le (show w.heap.size<W.heap.size by have:=HWs.out;omega) HB.out.size
    by_cases hlt:k<vn
    ·obtain⟨vb,off,v,rfl,hvb,hv,e0,e1,e2⟩:=(HV.out.below (args_touch HW.out HB.out HFF.out hB)).at_ hlt
     have hfp:=pid_fit HF.out k
     have HVK:=Lib.hid hv
     have HFV:=Lib.hid (HF.out.vs v (List.mem_of_getElem? hv))
     obtain⟨la,hla⟩: ∃la,la=pid p.vs k:=⟨_,rfl⟩
     rw[←hla] at hfp
     rw[←hla]
     have HLA:=Lib.hid hla
     clear hv hla
     unfold fitI at hfp
     have HIN:=fun w=>Lib.hid (in_any v.at_ w)
     by_cases c1:v.id≤la
     ·have F:=Lib.hid (rightB_no (p:=p) (fun h=>by have:=(h.v k v HVK.out).rise;have:=HLA.out;omega))
      go_wp2_with fail
      go_ret
      exact⟨by rw[F.out];rfl,HW.out.trans (Touch.below (touch_later HB.out (below_alloc (Below.refl _ _))) HW.out.size HFF.out)⟩
     ·cases c2:inB v.at_
      ·rw[c2] at HIN
       have F:=Lib.hid (rightB_no (p:=p) (fun h=>by have:=(h.v k v HVK.out).inr;rw[c2] at this;cases this))
       clear c2
       go_wp2_with fail
       first|refine wp_name (fun W2 hW2=> ?_)|refine calls_name (fun W2 hW2=> ?_)
       have HW2:Hid (Below wr.heap.size wr W2):=Lib.hid (by rw[←hW2];repeat (first|exact Below.refl _ _|refine below_alloc ?_))
       have HWs2:Hid (W2.heap.size=wr.heap.size+1):=Lib.hid (by rw[←hW2];simp)
       skip
       have HC2:=fun(W1:World) (hb:Touch (rgF w) W2 W1)=>Lib.hid (show W1.cell? ⟨w.heap.size,0,none⟩=some (.slice (some ⟨vb,off,none⟩) vn vc)∧W1.cell? ⟨w.heap.size,1,none⟩=some (.slice ea en ec)∧W1.cell? ⟨wr.heap.size,0,none⟩=some (.int .i64 v.id)∧W1.cell? ⟨wr.heap.size,1,none⟩=some (.int .i64 v.at_.x)∧W1.cell? ⟨wr.heap.size,2,none⟩=some (.int .i64 v.at_.y) from by have ho:=(HC W1 (touch_in HB.out HW2.out hb (by intro b hb;have h1:=HB.out.size;first|exact .inl hb|(simp at hb ⊢;omega)))).out;exact⟨ho.1,ho.2,(touch_cell hb (show wr.heap.size<W2.heap.size by have:=HWs2.out;omega) (by have z1:=HWs.out;have z2:=HB.out.size;first|(simp;done)|(simp;omega)|(intro hm;simp at hm;omega))).trans (by rw[←hW2];clear hW2;go_simp),(touch_cell hb (show wr.heap.size<W2.heap.size by have:=HWs2.out;omega) (by have z1:=HWs.out;have z2:=HB.out.size;first|(simp;done)|(simp;omega)|(intro hm;simp at hm;omega))).trans (by rw[←hW2];clear hW2;go_simp),(touch_cell hb (show wr.heap.size<W2.heap.size by have:=HWs2.out;omega) (by have z1:=HWs.out;have z2:=HB.out.size;first|(simp;done)|(simp;omega)|(intro hm;simp at hm;omega))).trans (by rw[←hW2];clear hW2;go_simp)⟩)
       have HB2:=Lib.hid (Touch.refl (rgF w) W2)
       clear hW2
       clear q2_0 q2_1 r2_0
       obtain⟨q3_0,q3_1,q3_2,q3_3,q3_4⟩:=(HC2 _ HB2.out).out
       have r3_0:=Nat.lt_of_lt_of_le (show w.heap.size<W2.heap.size by have h0:w.heap.size<W.heap.size:=(by have:=HWs.out;omega);have h2:=HB.out.size;have h3:=HW2.out.size;omega) HB2.out.size
       have r3_1:=Nat.lt_of_lt_of_le (show wr.heap.size<W2.heap.size by have:=HWs2.out;omega) HB2.out.size
       refine((HIN _).out).mono ?_
       rintro e w4 ⟨rfl,hb4⟩
       have HB2:=Lib.hid (touch_next HB2.out (by repeat (first|exact Below.refl _ _|refine below_alloc ?_)) hb4)
       clear q3_0 q3_1 q3_2 q3_3 q3_4 r3_0 r3_1
       obtain⟨q4_0,q4_1,q4_2,q4_3,q4_4⟩:=(HC2 _ HB2.out).out
       clear hb4
       have r4_0:=Nat.lt_of_lt_of_le (show w.heap.size<W2.heap.size by have h0:w.heap.size<W.heap.size:=(by have:=HWs.out;omega);have h2:=HB.out.size;have h3:=HW2.out.size;omega) HB2.out.size
       have r4_1:=Nat.lt_of_lt_of_le (show wr.heap.size<W2.heap.size by have:=HWs2.out;omega) HB2.out.size
       go_wp2_with fail
       have HB:=Lib.hid (touch_in HB.out HW2.out HB2.out (by intro b hb;have h1:=HB.out.size;first|exact .inl hb|(simp at hb ⊢;omega)))
       clear q4_0 q4_1 q4_2 q4_3 q4_4 r4_0 r4_1
       go_ret
       exact⟨by rw[F.out];rfl,HW.out.trans (Touch.below HB.out HW.out.size HFF.out)⟩
      ·rw[c2] at HIN
       have HC2I:=Lib.hid c2
       clear c2
       cases c3:metB (p.vs.take k) v.at_
       ·have HC3:=Lib.hid c3
        have HOK:Hid (VOk p.vs k v):=Lib.hid ⟨by have:=HLA.out;omega,HC2I.out,fun j u hj hu e=>by
         have:metB (p.vs.take k) v.at_=true:=metB_iff.2 ⟨u,mem_take.2 ⟨j,hj,hu⟩,e⟩
         rw[c3] at this;cases this⟩
        clear c3
        have HK1:=Lib.hid (key_int v.id (wf_int HFV.out.1))
        have HK2:=Lib.hid (key_pt HFV.out.2)
        have hPS:=Lib.hid (pid_succ HVK.out)
        go_wp2_with fail
        first|refine wp_name (fun W2 hW2=> ?_)|refine calls_name (fun W2 hW2=> ?_)
        have HW2:Hid (Below wr.heap.size wr W2):=Lib.hid (by rw[←hW2];repeat (first|exact Below.refl _ _|refine below_alloc ?_))
        have HWs2:Hid (W2.heap.size=wr.heap.size+1):=Lib.hid (by rw[←hW2];simp)
        skip
        have HC2:=fun(W1:World) (hb:Touch (rgF w) W2 W1)=>Lib.hid (show W1.cell? ⟨w.heap.size,0,none⟩=some (.slice (some ⟨vb,off,none⟩) vn vc)∧W1.cell? ⟨w.heap.size,1,none⟩=some (.slice ea en ec)∧W1.cell? ⟨wr.heap.size,0,none⟩=some (.int .i64 v.id)∧W1.cell? ⟨wr.heap.size,1,none⟩=some (.int .i64 v.at_.x)∧W1.cell? ⟨wr.heap.size,2,none⟩=some (.int .i64 v.at_.y) from by have ho:=(HC W1 (touch_in HB.out HW2.out hb (by intro b hb;have h1:=HB.out.size;first|exact .inl hb|(simp at hb ⊢;omega)))).out;exact⟨ho.1,ho.2,(touch_cell hb (show wr.heap.size<W2.heap.size by have:=HWs2.out;omega) (by have z1:=HWs.out;have z2:=HB.out.size;first|(simp;done)|(simp;omega)|(intro hm;simp at hm;omega))).trans (by rw[←hW2];clear hW2;go_simp),(touch_cell hb (show wr.heap.size<W2.heap.size by have:=HWs2.out;omega) (by have z1:=HWs.out;have z2:=HB.out.size;first|(simp;done)|(simp;omega)|(intro hm;simp at hm;omega))).trans (by rw[←hW2];clear hW2;go_simp),(touch_cell hb (show wr.heap.size<W2.heap.size by have:=HWs2.out;omega) (by have z1:=HWs.out;have z2:=HB.out.size;first|(simp;done)|(simp;omega)|(intro hm;simp at hm;omega))).trans (by rw[←hW2];clear hW2;go_simp)⟩)
        have HB2:=Lib.hid (Touch.refl (rgF w) W2)
        clear hW2
        clear q2_0 q2_1 r2_0
        obtain⟨q7_0,q7_1,q7_2,q7_3,q7_4⟩:=(HC2 _ HB2.out).out
        have r7_0:=Nat.lt_of_lt_of_le (show w.heap.size<W2.heap.size by have h0:w.heap.size<W.heap.size:=(by have:=HWs.out;omega);have h2:=HB.out.size;have h3:=HW2.out.size;omega) HB2.out.size
        have r7_1:=Nat.lt_of_lt_of_le (show wr.heap.size<W2.heap.size by have:=HWs2.out;omega) HB2.out.size
        refine((HIN _).out).mono ?_
        rintro e w8 ⟨rfl,hb8⟩
        have HB2:=Lib.hid (touch_next HB2.out (by repeat (first|exact Below.refl _ _|refine below_alloc ?_)) hb8)
        clear q7_0 q7_1 q7_2 q7_3 q7_4 r7_0 r7_1
        obtain⟨q8_0,q8_1,q8_2,q8_3,q8_4⟩:=(HC2 _ HB2.out).out
        have HR2:=Lib.hid (HR.out.later (HW2.out.trans (hb8.mono HW2.out.size)));have lk:=HR2.out.met.look (q:=v.at_) (HFV.out.2);rw[HC3.out] at lk
        clear hb8
        have r8_0:=Nat.lt_of_lt_of_le (show w.heap.size<W2.heap.size by have h0:w.heap.size<W.heap.size:=(by have:=HWs.out;omega);have h2:=HB.out.size;have h3:=HW2.out.size;omega) HB2.out.size
        have r8_1:=Nat.lt_of_lt_of_le (show wr.heap.size<W2.heap.size by have:=HWs2.out;omega) HB2.out.size
        go_wp2_with (first|(at_mapUpdate;refine wpList_update_T _ rfl _ _ _ 100 rfl 3 51 Try.keyInt Try.underlying100 (w.heap.size+1) k ekI ptV (ptOf (p.vs.take k)) HR2.out.mat rfl (by unfold maxLen;omega) v.id _ rfl HK1.out (ekI_inj _) v.at_ rfl ?_;intro w3 hm3 hg3;have HB2:=Lib.hid (touch_grown HB2.out (by repeat (first|exact Below.refl _ _|refine below_alloc ?_)) hg3 (by simp));clear q8_0 q8_1 q8_2 q8_3 q8_4 r8_0 r8_1;obtain⟨q9_0,q9_1,q9_2,q9_3,q9_4⟩:=(HC2 _ HB2.out).out;have r9_0:=Nat.lt_of_lt_of_le (show w.heap.size<W2.heap.size by have h0:w.heap.size<W.heap.size:=(by have:=HWs.out;omega);have h2:=HB.out.size;have h3:=HW2.out.size;omega) HB2.out.size;have r9_1:=Nat.lt_of_lt_of_le (show wr.heap.size<W2.heap.size by have:=HWs2.out;omega) HB2.out.size;have HM3:=Lib.hid hm3;have HG3:=Lib.hid hg3;have HE3:=Lib.hid (MapT.touch HR2.out.met (Touch.of_grown hg3) (by simp));clear hm3 hg3)|(at_mapUpdate;refine wpList_update_T _ rfl _ _ _ 101 rfl 51 4 Try.keyPoint Try.underlying101 (w.heap.size+1+1) k ptV evB (metM (p.vs.take k)) HE3.out rfl (by unfold maxLen;omega) v.at_ _ rfl HK2.out (ptV_inj _) true rfl ?_;intro w4 hm4 hg4;have HR4:=Lib.hid (HR2.out.step HVK.out HOK.out HM3.out HG3.out hm4 hg4);clear hm4 hg4))
        go_roundw
        case rel=>exact⟨k+1,by omega,by go_num,by rw[hPS.out],HR4.out⟩
        case measure=>simp[intOf];omega
       ·have F:=Lib.hid (rightB_no (p:=p) (fun h=>by
         obtain⟨u,hu,e⟩:=metB_iff.1 c3
         obtain⟨j,hj,hu⟩:=mem_take.1 hu
         exact(h.v k v HVK.out).ne j u hj hu e))
        have HC3:=Lib.hid c3
        clear c3
        go_wp2_with fail
        first|refine wp_name (fun W2 hW2=> ?_)|refine calls_name (fun W2 hW2=> ?_)
        have HW2:Hid (Below wr.heap.size wr W2):=Lib.hid (by rw[←hW2];repeat (first|exact Below.refl _ _|refine below_alloc ?_))
        have HWs2:Hid (W2.heap.size=wr.heap.size+1):=Lib.hid (by rw[←hW2];simp)
        skip
        have HC2:=fun(W1:World) (hb:Touch (rgF w) W2 W1)=>Lib.hid (show W1.cell? ⟨w.heap.size,0,none⟩=some (.slice (some ⟨vb,off,none⟩) vn vc)∧W1.cell? ⟨w.heap.size,1,none⟩=some (.slice ea en ec)∧W1.cell? ⟨wr.heap.size,0,none⟩=some (.int .i64 v.id)∧W1.cell? ⟨wr.heap.size,1,none⟩=some (.int .i64 v.at_.x)∧W1.cell? ⟨wr.heap.size,2,none⟩=some (.int .i64 v.at_.y) from by have ho:=(HC W1 (touch_in HB.out HW2.out hb (by intro b hb;have h1:=HB.out.size;first|exact .inl hb|(simp at hb ⊢;omega)))).out;exact⟨ho.1,ho.2,(touch_cell hb (show wr.heap.size<W2.heap.size by have:=HWs2.out;omega) (by have z1:=HWs.out;have z2:=HB.out.size;first|(simp;done)|(simp;omega)|(intro hm;simp at hm;omega))).trans (by rw[←hW2];clear hW2;go_simp),(touch_cell hb (show wr.heap.size<W2.heap.size by have:=HWs2.out;omega) (by have z1:=HWs.out;have z2:=HB.out.size;first|(simp;done)|(simp;omega)|(intro hm;simp at hm;omega))).trans (by rw[←hW2];clear hW2;go_simp),(touch_cell hb (show wr.heap.size<W2.heap.size by have:=HWs2.out;omega) (by have z1:=HWs.out;have z2:=HB.out.size;first|(simp;done)|(simp;omega)|(intro hm;simp at hm;omega))).trans (by rw[←hW2];clear hW2;go_simp)⟩)
        have HB2:=Lib.hid (Touch.refl (rgF w) W2)
        clear hW2
        clear q2_0 q2_1 r2_0
        obtain⟨q10_0,q10_1,q10_2,q10_3,q10_4⟩:=(HC2 _ HB2.out).out
        have r10_0:=Nat.lt_of_lt_of_le (show w.heap.size<W2.heap.size by have h0:w.heap.size<W.heap.size:=(by have:=HWs.out;omega);have h2:=HB.out.size;have h3:=HW2.out.size;omega) HB2.out.size
        have r10_1:=Nat.lt_of_lt_of_le (show wr.heap.size<W2.heap.size by have:=HWs2.out;omega) HB2.out.size
        refine((HIN _).out).mono ?_
        rintro e w11 ⟨rfl,hb11⟩
        have HB2:=Lib.hid (touch_next HB2.out (by repeat (first|exact Below.refl _ _|refine below_alloc ?_)) hb11)
        clear q10_0 q10_1 q10_2 q10_3 q10_4 r10_0 r10_1
        obtain⟨q11_0,q11_1,q11_2,q11_3,q11_4⟩:=(HC2 _ HB2.out).out
        have HR2:=Lib.hid (HR.out.later (HW2.out.trans (hb11.mono HW2.out.size)));have lk:=HR2.out.met.look (q:=v.at_) (HFV.out.2);rw[HC3.out] at lk
        clear hb11
        have r11_0:=Nat.lt_of_lt_of_le (show w.heap.size<W2.heap.size by have h0:w.heap.size<W.heap.size:=(by have:=HWs.out;omega);have h2:=HB.out.size;have h3:=HW2.out.size;omega) HB2.out.size
        have r11_1:=Nat.lt_of_lt_of_le (show wr.heap.size<W2.heap.size by have:=HWs2.out;omega) HB2.out.size
        go_wp2_with fail
        have HB:=Lib.hid (touch_in HB.out HW2.out HB2.out (by intro b hb;have h1:=HB.out.size;first|exact .inl hb|(simp at hb ⊢;omega)))
        clear q11_0 q11_1 q11_2 q11_3 q11_4 r11_0 r11_1
        go_ret
        exact⟨by rw[F.out];rfl,HW.out.trans (Touch.below HB.out HW.out.size HFF.out)⟩
    ·obtain rfl:vn=k:=by omega
     have HRV:=Lib.hid (fun i v (h:p.vs[i]? =some v)=>HR.out.ok i v (by have:=(List.getElem?_eq_some_iff.1 h).1;have:=HV.out.1;omega) h)
     have HMA:Hid (AtMap wr (w.heap.size+1) p.vs.length p.vs):=Lib.hid (by have h1:=HR.out.mat;rw[List.take_of_length_le (by have:=HV.out.1;omega),HV.out.1] at h1;exact h1)
     clear HR
     obtain⟨wo,rfl⟩: ∃wo:World,wo=wr:=⟨_,rfl⟩
     go_wp2_with fail
     have hPge:w.heap.size+1+1+1≤wo.heap.size:=by have h1:=HB.out.size;have h2:=HWs.out;omega
     first|refine wp_name (fun W3 hW3=> ?_)|refine calls_name (fun W3 hW3=> ?_)
     have HW3:Hid (Below wo.heap.size wo W3):=Lib.hid (by rw[←hW3];repeat (first|exact Below.refl _ _|refine below_alloc ?_))
     have HWs3:Hid (W3.heap.size=wo.heap.size+1):=Lib.hid (by rw[←hW3];simp)
     skip
     have HC3:=fun(W1:World) (hb:Touch (rgG w wo.heap.size) W3 W1)=>Lib.hid (show W1.cell? ⟨w.heap.size,0,none⟩=some (.slice va vn vc)∧W1.cell? ⟨w.heap.size,1,none⟩=some (.slice ea en ec) from by have ho:=(HC W1 (touch_in HB.out HW3.out hb (by intro b hb;have h1:=HB.out.size;first|exact .inl hb|(simp at hb ⊢;omega)))).out;exact⟨ho.1,ho.2⟩)
     have HB3:=Lib.hid (Touch.refl (rgG w wo.heap.size) W3)
     clear q2_0 q2_1 r2_0
     obtain⟨q14_0,q14_1⟩:=(HC3 _ HB3.out).out
     have r14_0:=Nat.lt_of_lt_of_le (show w.heap.size<W3.heap.size by have h0:w.heap.size<W.heap.size:=(by have:=HWs.out;omega);have h2:=HB.out.size;have h3:=HW3.out.size;omega) HB3.out.size
     have HE0:Hid (RgtE w W3 W3 p wo.heap.size 0):=Lib.hid ⟨Nat.zero_le _,fun i v hi=>absurd hi (by omega),by rw[←hW3];exact MapT.alloc HMA.out _,by rw[←hW3];exact MapT.made wo Try.prog 79 ekQ evB,Touch.refl _ _⟩
     have HBO:=fun(W1:World) (h:Touch (rgG w wo.heap.size) W3 W1)=>Lib.hid (touch_in HB.out HW3.out h (by intro b hb;have h1:=HB.out.size;simp at hb ⊢;omega))
     have HAR:=fun(W1:World) (h:Touch (rgG w wo.heap.size) W3 W1)=>Lib.hid (args_touch HW.out (HBO W1 h).out HFF.out hB)
     clear hW3 HMA
     go_wp2_with fail
     clear q14_0 q14_1 r14_0
     go_loopw [5,65] (fun la v wr=> ∃j:Nat,j≤en∧v= .int .i64 j∧la= .int .i64 (eid p.es j)∧RgtE w W3 wr p wo.heap.size j) (fun _ v _=>en - (intOf v).toNat)
     case atStart=>exact⟨0,Nat.zero_le _,rfl,rfl,HE0.out⟩
     case round=>
      clear HE0 HB3
      obtain⟨j,hj,rfl,rfl,hR⟩:=hrel
      have HR:=Lib.hid hR
      have HB3:=Lib.hid hR.tch
      clear hR
      obtain⟨q15_0,q15_1⟩:=(HC3 _ HB3.out).out
      have r15_0:=Nat.lt_of_lt_of_le (show w.heap.size<W3.heap.size by have h0:w.heap.size<W.heap.size:=(by have:=HWs.out;omega);have h2:=HB.out.size;have h3:=HW3.out.size;omega) HB3.out.size
      by_cases hlj:j<en
      ·obtain⟨eb,eoff,e,hea,heb,he,f0,f1,f2⟩:=(HE.out.below (HAR _ HB3.out).out).at_ hlj
       have HEK:=Lib.hid he
       have hfp:=eid_fit HF.out j
       obtain⟨la,hla⟩: ∃la,la=eid p.es j:=⟨_,rfl⟩
       rw[←hla] at hfp
       rw[←hla]
       have HLA:=Lib.hid hla
       have HFE:=Lib.hid (HF.out.es e (List.mem_of_getElem? he))
       unfold fitI at hfp
       have HEI:=HE
       subst hea
       clear he hla
       obtain⟨A,hA⟩: ∃A,A=ptZ p.vs e.a:=⟨_,rfl⟩
       obtain⟨B',hB'⟩: ∃B',B'=ptZ p.vs e.b:=⟨_,rfl⟩
       have k1:(Instr.lookup 100 (.map (some (w.heap.size+1))) (.int .i64 e.a) true).run Try.prog (wr.alloc (.cells #[.int .i64 e.id, .int .i64 e.a, .int .i64 e.b] 63))= .ok (.tuple #[.agg #[.int .i64 A.x, .int .i64 A.y], .bool (ptOf p.vs e.a).isSome]) (wr.alloc (.cells #[.int .i64 e.id, .int .i64 e.a, .int .i64 e.b] 63)):=by
        rw[hA];exact AtMap.look_ok (MapT.alloc HR.out.mat _) e.a HFE.out.2.1
       have k2:(Instr.lookup 100 (.map (some (w.heap.size+1))) (.int .i64 e.b) true).run Try.prog ((wr.alloc (.cells #[.int .i64 e.id, .int .i64 e.a, .int .i64 e.b] 63)).alloc (ptC A))= .ok (.tuple #[.agg #[.int .i64 B'.x, .int .i64 B'.y], .bool (ptOf p.vs e.b).isSome]) ((wr.alloc (.cells #[.int .i64 e.id, .int .i64 e.a, .int .i64 e.b] 63)).alloc (ptC A)):=by
        rw[hB'];exact AtMap.look_ok (MapT.alloc (MapT.alloc HR.out.mat _) _) e.b HFE.out.2.2
       have HA:=Lib.hid hA
       have HBP:=Lib.hid hB'
       clear hA hB'
       by_cases c1:e.id≤la
       ·have F:=Lib.hid (rightB_no (p:=p) (fun h=>by obtain⟨A,B,hh⟩:=h.e j e HEK.out;have:=hh.rise;have:=HLA.out;omega))
        cases v1:ptOf p.vs e.a with
        |none=>
         rw[v1] at k1
         simp only[Option.isSome] at k1
         clear v1
         cases v2:ptOf p.vs e.b with
         |none=>
          rw[v2] at k2
          simp only[Option.isSome] at k2
          clear v2
          go_wp2_with fail
          go_ret
          exact⟨by rw[F.out];rfl,HW.out.trans (Touch.below (touch_later (HBO _ HB3.out).out (below_alloc (below_alloc (below_alloc (Below.refl _ _))))) HW.out.size HFF.out)⟩
         |some _=>
          rw[v2] at k2
          simp only[Option.isSome] at k2
          clear v2
          go_wp2_with fail
          go_ret
          exact⟨by rw[F.out];rfl,HW.out.trans (Touch.below (touch_later (HBO _ HB3.out).out (below_alloc (below_alloc (below_alloc (Below.refl _ _))))) HW.out.size HFF.out)⟩
        |some _=>
         rw[v1] at k1
         simp only[Option.isSome] at k1
         clear v1
         cases v2:ptOf p.vs e.b with
         |none=>
          rw[v2] at k2
          simp only[Option.isSome] at k2
          clear v2
          go_wp2_with fail
          go_ret
          exact⟨by rw[F.out];rfl,HW.out.trans (Touch.below (touch_later (HBO _ HB3.out).out (below_alloc (below_alloc (below_alloc (Below.refl _ _))))) HW.out.size HFF.out)⟩
         |some _=>
          rw[v2] at k2
          simp only[Option.isSome] at k2
          clear v2
          go_wp2_with fail
          go_ret
          exact⟨by rw[F.out];rfl,HW.out.trans (Touch.below (touch_later (HBO _ HB3.out).out (below_alloc (below_alloc (below_alloc (Below.refl _ _))))) HW.out.size HFF.out)⟩
       ·have HRISE:=Lib.hid (show eid p.es j<e.id by have:=HLA.out;omega)
        clear HLA
        cases v1:ptOf p.vs e.a with
        |none=>
         have F:=Lib.hid (rightB_no (p:=p) (fun h=>by obtain⟨A,B,hh⟩:=h.e j e HEK.out;have:=hh.pa;rw[v1] at this;cases this))
         rw[v1] at k1
         simp only[Option.isSome] at k1
         clear v1
         cases v2:ptOf p.vs e.b with
         |none=>
          rw[v2] at k2
          simp only[Option.isSome] at k2
          clear v2
          go_wp2_with fail
          go_ret
          exact⟨by rw[F.out];rfl,HW.out.trans (Touch.below (touch_later (HBO _ HB3.out).out (below_alloc (below_alloc (below_alloc (Below.refl _ _))))) HW.out.size HFF.out)⟩
         |some _=>
          rw[v2] at k2
          simp only[Option.isSome] at k2
          clear v2
          go_wp2_with fail
          go_ret
          exact⟨by rw[F.out];rfl,HW.out.trans (Touch.below (touch_later (HBO _ HB3.out).out (below_alloc (below_alloc (below_alloc (Below.refl _ _))))) HW.out.size HFF.out)⟩
        |some A0=>
         have HPA:=Lib.hid (show ptOf p.vs e.a=some A by rw[HA.out,ptZ_of v1];exact v1)
         rw[v1] at k1
         simp only[Option.isSome] at k1
         clear v1 HA
         cases v2:ptOf p.vs e.b with
         |none=>
          have F:=Lib.hid (rightB_no (p:=p) (fun h=>by obtain⟨A,B,hh⟩:=h.e j e HEK.out;have:=hh.pb;rw[v2] at this;cases this))
          rw[v2] at k2
          simp only[Option.isSome] at k2
          clear v2
          go_wp2_with fail
          go_ret
          exact⟨by rw[F.out];rfl,HW.out.trans (Touch.below (touch_later (HBO _ HB3.out).out (below_alloc (below_alloc (below_alloc (Below.refl _ _))))) HW.out.size HFF.out)⟩
         |some B0=>
          have HPB:=Lib.hid (show ptOf p.vs e.b=some B' by rw[HBP.out,ptZ_of v2];exact v2)
          rw[v2] at k2
          simp only[Option.isSome] at k2
          clear v2 HBP
          by_cases c4:e.a=e.b
          ·have F:=Lib.hid (rightB_no (p:=p) (fun h=>by obtain⟨A,B,hh⟩:=h.e j e HEK.out;exact hh.ab c4))
           have c4':(e.a==e.b)=true:=by simpa using c4
           clear c4
           go_wp2_with fail
           go_ret
           exact⟨by rw[F.out];rfl,HW.out.trans (Touch.below (touch_later (HBO _ HB3.out).out (below_alloc (below_alloc (below_alloc (Below.refl _ _))))) HW.out.size HFF.out)⟩
          ·have c4':(e.a==e.b)=false:=by simpa using c4
           have HNAB:=Lib.hid c4
           clear c4
           have hfe:=ends_fit HFE.out.2.1 HFE.out.2.2
           have HKQ:=Lib.hid (key_q hfe.1 hfe.2)
           have HFQ:=Lib.hid hfe
           clear hfe
           have HEN:=fun w=>Lib.hid (pends_any e w)
           cases c5:pairB (p.es.take j) (ends e)
           ·have HC5:=Lib.hid c5
            have HPAIR:=Lib.hid (show∀i f,i<j→p.es[i]? =some f→ends f≠ends e from fun i f hi hf h=>by
             have:=pairB_iff.2 ⟨f,mem_take.2 ⟨i,hi,hf⟩,h⟩
             rw[c5] at this;cases this)
            clear c5
            have HON:=fun(W1:World) (h:Touch (rgG w wo.heap.size) W3 W1)=>Lib.hid (onWay_any (vc:=vc) (HV.out.below (HAR W1 h).out) (Nat.le_trans hB (Nat.le_trans HW.out.size (Nat.le_trans HB.out.size (Nat.le_trans HW3.out.size h.size)))) hn (.slice (some ⟨eb,eoff,none⟩) en ec) ⟨_,_,_,rfl⟩ A B')
            cases c6:p.vs.any fun v=>onB v.at_ A B'
            ·rw[c6] at HON
             have HWAY:=Lib.hid (show∀v∈p.vs,onB v.at_ A B'=false from fun v hv=>by rw[List.any_eq_false] at c6;simpa using c6 v hv)
             clear c6
             have HPne:Hid (wo.heap.size≠w.heap.size+1):=Lib.hid (by omega)
             have HAP:Hid (p.vs.Pairwise (fun u v=>u.id≠v.id)):=Lib.hid (ids_apart HRV.out)
             have HCR:=fun(W1:World) (h:Touch (rgG w wo.heap.size) W3 W1)=>Lib.hid (crossed_any (vc:=vc) (ec:=ec) (HV.out.below (HAR W1 h).out) ((HE.out.below (HAR W1 h).out).take (Nat.le_of_lt hlj)) (Nat.le_trans hB (Nat.le_trans HW.out.size (Nat.le_trans HB.out.size (Nat.le_trans HW3.out.size h.size)))) hn (by omega) ⟨HF.out.vs,fun f hf=>HF.out.es f (List.mem_of_mem_take hf)⟩ HAP.out A B')
             have hsl:j≤ec:=by omega
             cases c7:crossedB p.vs (p.es.take j) A B'
             ·rw[c7] at HCR
              have HOK:Hid (∃A B,EOk p.vs p.es j e A B):=Lib.hid ⟨A,B',HRISE.out,HPA.out,HPB.out,HNAB.out,HPAIR.out,HWAY.out,crossed_no c7⟩
              have hES:=Lib.hid (eid_succ HEK.out)
              clear c7
              go_wp2_with fail
              first|refine wp_name (fun W4 hW4=> ?_)|refine calls_name (fun W4 hW4=> ?_)
              have HW4:Hid (Below wr.heap.size wr W4):=Lib.hid (by rw[←hW4];repeat (first|exact Below.refl _ _|refine below_alloc ?_))
              have HWs4:Hid (W4.heap.size=wr.heap.size+1+1+1):=Lib.hid (by rw[←hW4];simp)
              skip
              have HC4:=fun(W1:World) (hb:Touch (rgG w wo.heap.size) W4 W1)=>Lib.hid (show W1.cell? ⟨w.heap.size,0,none⟩=some (.slice va vn vc)∧W1.cell? ⟨w.heap.size,1,none⟩=some (.slice (some ⟨eb,eoff,none⟩) en ec)∧W1.cell? ⟨wr.heap.size,0,none⟩=some (.int .i64 e.id)∧W1.cell? ⟨wr.heap.size,1,none⟩=some (.int .i64 e.a)∧W1.cell? ⟨wr.heap.size,2,none⟩=some (.int .i64 e.b)∧W1.cell? ⟨wr.heap.size+1,0,none⟩=some (.int .i64 A.x)∧W1.cell? ⟨wr.heap.size+1,1,none⟩=some (.int .i64 A.y)∧W1.cell? ⟨wr.heap.size+1+1,0,none⟩=some (.int .i64 B'.x)∧W1.cell? ⟨wr.heap.size+1+1,1,none⟩=some (.int .i64 B'.y) from by have ho:=(HC3 W1 (touch_in HB3.out HW4.out hb (by intro b hb;have h1:=HB3.out.size;first|exact .inl hb|(simp at hb ⊢;omega)))).out;exact⟨ho.1,ho.2,(touch_cell hb (show wr.heap.size<W4.heap.size by have:=HWs4.out;omega) (by have z1:=HWs3.out;have z2:=HB3.out.size;first|(simp;done)|(simp;omega)|(intro hm;simp at hm;omega))).trans (by rw[←hW4];clear hW4;go_simp),(touch_cell hb (show wr.heap.size<W4.heap.size by have:=HWs4.out;omega) (by have z1:=HWs3.out;have z2:=HB3.out.size;first|(simp;done)|(simp;omega)|(intro hm;simp at hm;omega))).trans (by rw[←hW4];clear hW4;go_simp),(touch_cell hb (show wr.heap.size<W4.heap.size by have:=HWs4.out;omega) (by have z1:=HWs3.out;have z2:=HB3.out.size;first|(simp;done)|(simp;omega)|(intro hm;simp at hm;omega))).trans (by rw[←hW4];clear hW4;go_simp),(touch_cell hb (show wr.heap.size+1<W4.heap.size by have:=HWs4.out;omega) (by have z1:=HWs3.out;have z2:=HB3.out.size;first|(simp;done)|(simp;omega)|(intro hm;simp at hm;omega))).trans (by rw[←hW4];clear hW4;go_simp),(touch_cell hb (show wr.heap.size+1<W4.heap.size by have:=HWs4.out;omega) (by have z1:=HWs3.out;have z2:=HB3.out.size;first|(simp;done)|(simp;omega)|(intro hm;simp at hm;omega))).trans (by rw[←hW4];clear hW4;go_simp),(touch_cell hb (show wr.heap.size+1+1<W4.heap.size by have:=HWs4.out;omega) (by have z1:=HWs3.out;have z2:=HB3.out.size;first|(simp;done)|(simp;omega)|(intro hm;simp at hm;omega))).trans (by rw[←hW4];clear hW4;go_simp),(touch_cell hb (show wr.heap.size+1+1<W4.heap.size by have:=HWs4.out;omega) (by have z1:=HWs3.out;have z2:=HB3.out.size;first|(simp;done)|(simp;omega)|(intro hm;simp at hm;omega))).trans (by rw[←hW4];clear hW4;go_simp)⟩)
              have HB4:=Lib.hid (Touch.refl (rgG w wo.heap.size) W4)
              clear hW4
              clear q15_0 q15_1 r15_0
              obtain⟨q16_0,q16_1,q16_2,q16_3,q16_4,q16_5,q16_6,q16_7,q16_8⟩:=(HC4 _ HB4.out).out
              have r16_0:=Nat.lt_of_lt_of_le (show w.heap.size<W4.heap.size by have h0:w.heap.size<W3.heap.size:=(by have h0:w.heap.size<W.heap.size:=(by have:=HWs.out;omega);have h2:=HB.out.size;have h3:=HW3.out.size;omega);have h2:=HB3.out.size;have h3:=HW4.out.size;omega) HB4.out.size
              have r16_1:=Nat.lt_of_lt_of_le (show wr.heap.size<W4.heap.size by have:=HWs4.out;omega) HB4.out.size
              have r16_2:=Nat.lt_of_lt_of_le (show wr.heap.size+1<W4.heap.size by have:=HWs4.out;omega) HB4.out.size
              have r16_3:=Nat.lt_of_lt_of_le (show wr.heap.size+1+1<W4.heap.size by have:=HWs4.out;omega) HB4.out.size
              refine((HEN _).out).mono ?_
              rintro e w17 ⟨rfl,hb17⟩
              have HB4:=Lib.hid (touch_next HB4.out (by repeat (first|exact Below.refl _ _|refine below_alloc ?_)) hb17)
              clear q16_0 q16_1 q16_2 q16_3 q16_4 q16_5 q16_6 q16_7 q16_8 r16_0 r16_1 r16_2 r16_3
              obtain⟨q17_0,q17_1,q17_2,q17_3,q17_4,q17_5,q17_6,q17_7,q17_8⟩:=(HC4 _ HB4.out).out
              have HR5:=Lib.hid (HR.out.later (HW4.out.trans (hb17.mono HW4.out.size)));have lk:=HR5.out.pr.look HFQ.out.1 HFQ.out.2;rw[HC5.out] at lk
              clear hb17
              have r17_0:=Nat.lt_of_lt_of_le (show w.heap.size<W4.heap.size by have h0:w.heap.size<W3.heap.size:=(by have h0:w.heap.size<W.heap.size:=(by have:=HWs.out;omega);have h2:=HB.out.size;have h3:=HW3.out.size;omega);have h2:=HB3.out.size;have h3:=HW4.out.size;omega) HB4.out.size
              have r17_1:=Nat.lt_of_lt_of_le (show wr.heap.size<W4.heap.size by have:=HWs4.out;omega) HB4.out.size
              have r17_2:=Nat.lt_of_lt_of_le (show wr.heap.size+1<W4.heap.size by have:=HWs4.out;omega) HB4.out.size
              have r17_3:=Nat.lt_of_lt_of_le (show wr.heap.size+1+1<W4.heap.size by have:=HWs4.out;omega) HB4.out.size
              go_wp2_with fail
              refine((HON _ HR5.out.tch).out).mono ?_
              rintro e w18 ⟨rfl,hb18⟩
              have HB4:=Lib.hid (touch_next HB4.out (by repeat (first|exact Below.refl _ _|refine below_alloc ?_)) hb18)
              clear q17_0 q17_1 q17_2 q17_3 q17_4 q17_5 q17_6 q17_7 q17_8 r17_0 r17_1 r17_2 r17_3
              obtain⟨q18_0,q18_1,q18_2,q18_3,q18_4,q18_5,q18_6,q18_7,q18_8⟩:=(HC4 _ HB4.out).out
              have HR5b:=Lib.hid (HR5.out.later hb18)
              clear hb18
              have r18_0:=Nat.lt_of_lt_of_le (show w.heap.size<W4.heap.size by have h0:w.heap.size<W3.heap.size:=(by have h0:w.heap.size<W.heap.size:=(by have:=HWs.out;omega);have h2:=HB.out.size;have h3:=HW3.out.size;omega);have h2:=HB3.out.size;have h3:=HW4.out.size;omega) HB4.out.size
              have r18_1:=Nat.lt_of_lt_of_le (show wr.heap.size<W4.heap.size by have:=HWs4.out;omega) HB4.out.size
              have r18_2:=Nat.lt_of_lt_of_le (show wr.heap.size+1<W4.heap.size by have:=HWs4.out;omega) HB4.out.size
              have r18_3:=Nat.lt_of_lt_of_le (show wr.heap.size+1+1<W4.heap.size by have:=HWs4.out;omega) HB4.out.size
              go_wp2_with fail
              refine((HEN _).out).mono ?_
              rintro e w19 ⟨rfl,hb19⟩
              have HB4:=Lib.hid (touch_next HB4.out (by repeat (first|exact Below.refl _ _|refine below_alloc ?_)) hb19)
              clear q18_0 q18_1 q18_2 q18_3 q18_4 q18_5 q18_6 q18_7 q18_8 r18_0 r18_1 r18_2 r18_3
              obtain⟨q19_0,q19_1,q19_2,q19_3,q19_4,q19_5,q19_6,q19_7,q19_8⟩:=(HC4 _ HB4.out).out
              have HR6:=Lib.hid (HR5b.out.later hb19)
              clear hb19
              have r19_0:=Nat.lt_of_lt_of_le (show w.heap.size<W4.heap.size by have h0:w.heap.size<W3.heap.size:=(by have h0:w.heap.size<W.heap.size:=(by have:=HWs.out;omega);have h2:=HB.out.size;have h3:=HW3.out.size;omega);have h2:=HB3.out.size;have h3:=HW4.out.size;omega) HB4.out.size
              have r19_1:=Nat.lt_of_lt_of_le (show wr.heap.size<W4.heap.size by have:=HWs4.out;omega) HB4.out.size
              have r19_2:=Nat.lt_of_lt_of_le (show wr.heap.size+1<W4.heap.size by have:=HWs4.out;omega) HB4.out.size
              have r19_3:=Nat.lt_of_lt_of_le (show wr.heap.size+1+1<W4.heap.size by have:=HWs4.out;omega) HB4.out.size
              go_wp2_with (first|(at_mapUpdate;refine wpList_update_T _ rfl _ _ _ 102 rfl 79 4 Try.keyPair Try.underlying102 wo.heap.size j ekQ evB (pairM (p.es.take j)) HR6.out.pr rfl (by unfold maxLen;omega) (ends e) _ rfl HKQ.out (ekQ_inj _) true rfl ?_;intro w7 hm7 hg7;have HB4:=Lib.hid (touch_grown HB4.out (by repeat (first|exact Below.refl _ _|refine below_alloc ?_)) hg7 (by simp));clear q19_0 q19_1 q19_2 q19_3 q19_4 q19_5 q19_6 q19_7 q19_8 r19_0 r19_1 r19_2 r19_3;obtain⟨q20_0,q20_1,q20_2,q20_3,q20_4,q20_5,q20_6,q20_7,q20_8⟩:=(HC4 _ HB4.out).out;have r20_0:=Nat.lt_of_lt_of_le (show w.heap.size<W4.heap.size by have h0:w.heap.size<W3.heap.size:=(by have h0:w.heap.size<W.heap.size:=(by have:=HWs.out;omega);have h2:=HB.out.size;have h3:=HW3.out.size;omega);have h2:=HB3.out.size;have h3:=HW4.out.size;omega) HB4.out.size;have r20_1:=Nat.lt_of_lt_of_le (show wr.heap.size<W4.heap.size by have:=HWs4.out;omega) HB4.out.size;have r20_2:=Nat.lt_of_lt_of_le (show wr.heap.size+1<W4.heap.size by have:=HWs4.out;omega) HB4.out.size;have r20_3:=Nat.lt_of_lt_of_le (show wr.heap.size+1+1<W4.heap.size by have:=HWs4.out;omega) HB4.out.size;have HR7:=HR6.out.keep hg7 hm7 HPne.out;have HM7:=Lib.hid hm7;have HG7:=Lib.hid hg7;clear hm7 hg7))
              refine wp_name (fun c21 hc21=> ?_)
              have HB4:=Lib.hid (touch_name HB4.out (by repeat (first|exact Below.refl _ _|refine below_alloc ?_)) hc21)
              have HCRL:=fun(x:Later c21)=>HCR x.1 (touch_later (hc21▸HR7.out) x.2);have HRS:=Lib.hid (hc21▸HR6.out.step HEK.out HOK.out HPne.out HM7.out HG7.out)
              clear hc21
              have x21_0:=fun(x:Later c21)=>(HC4 _ (touch_later HB4.out x.2)).out.1
              have x21_1:=fun(x:Later c21)=>(HC4 _ (touch_later HB4.out x.2)).out.2.1
              have x21_2:=fun(x:Later c21)=>(HC4 _ (touch_later HB4.out x.2)).out.2.2.1
              have x21_3:=fun(x:Later c21)=>(HC4 _ (touch_later HB4.out x.2)).out.2.2.2.1
              have x21_4:=fun(x:Later c21)=>(HC4 _ (touch_later HB4.out x.2)).out.2.2.2.2.1
              have x21_5:=fun(x:Later c21)=>(HC4 _ (touch_later HB4.out x.2)).out.2.2.2.2.2.1
              have x21_6:=fun(x:Later c21)=>(HC4 _ (touch_later HB4.out x.2)).out.2.2.2.2.2.2.1
              have x21_7:=fun(x:Later c21)=>(HC4 _ (touch_later HB4.out x.2)).out.2.2.2.2.2.2.2.1
              have x21_8:=fun(x:Later c21)=>(HC4 _ (touch_later HB4.out x.2)).out.2.2.2.2.2.2.2.2
              refine wp_region_later (by kernel_rfl) (by kernel_rfl) ?_
              repeat (first|go_big_quiet_step (((go_at_call 42;with_reducible refine Later.call (HCRL _).out)))|quiet_step (((go_at_call 42;with_reducible refine Later.call (HCRL _).out))))
              refine wpQuiet_nil ?_
              intro w21 hw21
              have hb21:=later_below hw21
              clear hw21
              have HB4:=Lib.hid (touch_later HB4.out hb21)
              clear x21_0 x21_1 x21_2 x21_3 x21_4 x21_5 x21_6 x21_7 x21_8
              clear q20_0 q20_1 q20_2 q20_3 q20_4 q20_5 q20_6 q20_7 q20_8 r20_0 r20_1 r20_2 r20_3
              obtain⟨q21_0,q21_1,q21_2,q21_3,q21_4,q21_5,q21_6,q21_7,q21_8⟩:=(HC4 _ HB4.out).out
              have HR8:=Lib.hid (HRS.out.later hb21)
              clear hb21
              have r21_0:=Nat.lt_of_lt_of_le (show w.heap.size<W4.heap.size by have h0:w.heap.size<W3.heap.size:=(by have h0:w.heap.size<W.heap.size:=(by have:=HWs.out;omega);have h2:=HB.out.size;have h3:=HW3.out.size;omega);have h2:=HB3.out.size;have h3:=HW4.out.size;omega) HB4.out.size
              have r21_1:=Nat.lt_of_lt_of_le (show wr.heap.size<W4.heap.size by have:=HWs4.out;omega) HB4.out.size
              have r21_2:=Nat.lt_of_lt_of_le (show wr.heap.size+1<W4.heap.size by have:=HWs4.out;omega) HB4.out.size
              have r21_3:=Nat.lt_of_lt_of_le (show wr.heap.size+1+1<W4.heap.size by have:=HWs4.out;omega) HB4.out.size
              go_wp2_with fail
              go_roundw
              case rel=>exact⟨j+1,by omega,by go_num,by rw[hES.out],HR8.out⟩
              case measure=>simp[intOf];omega
             ·rw[c7] at HCR
              have F:=Lib.hid (rightB_no (p:=p) (fun h=>by
               obtain⟨i,f,hi,hf,hm⟩:=crossed_yes c7
               obtain⟨A1,B1,hh⟩:=h.e j e HEK.out
               have e1:=hh.pa
               have e2:=hh.pb
               rw[HPA.out] at e1
               rw[HPB.out] at e2
               cases e1
               cases e2
               have:=hh.cross i f hi hf
               rw[hm] at this;cases this))
              clear c7
              go_wp2_with fail
              first|refine wp_name (fun W4 hW4=> ?_)|refine calls_name (fun W4 hW4=> ?_)
              have HW4:Hid (Below wr.heap.size wr W4):=Lib.hid (by rw[←hW4];repeat (first|exact Below.refl _ _|refine below_alloc ?_))
              have HWs4:Hid (W4.heap.size=wr.heap.size+1+1+1):=Lib.hid (by rw[←hW4];simp)
              skip
              have HC4:=fun(W1:World) (hb:Touch (rgG w wo.heap.size) W4 W1)=>Lib.hid (show W1.cell? ⟨w.heap.size,0,none⟩=some (.slice va vn vc)∧W1.cell? ⟨w.heap.size,1,none⟩=some (.slice (some ⟨eb,eoff,none⟩) en ec)∧W1.cell? ⟨wr.heap.size,0,none⟩=some (.int .i64 e.id)∧W1.cell? ⟨wr.heap.size,1,none⟩=some (.int .i64 e.a)∧W1.cell? ⟨wr.heap.size,2,none⟩=some (.int .i64 e.b)∧W1.cell? ⟨wr.heap.size+1,0,none⟩=some (.int .i64 A.x)∧W1.cell? ⟨wr.heap.size+1,1,none⟩=some (.int .i64 A.y)∧W1.cell? ⟨wr.heap.size+1+1,0,none⟩=some (.int .i64 B'.x)∧W1.cell? ⟨wr.heap.size+1+1,1,none⟩=some (.int .i64 B'.y) from by have ho:=(HC3 W1 (touch_in HB3.out HW4.out hb (by intro b hb;have h1:=HB3.out.size;first|exact .inl hb|(simp at hb ⊢;omega)))).out;exact⟨ho.1,ho.2,(touch_cell hb (show wr.heap.size<W4.heap.size by have:=HWs4.out;omega) (by have z1:=HWs3.out;have z2:=HB3.out.size;first|(simp;done)|(simp;omega)|(intro hm;simp at hm;omega))).trans (by rw[←hW4];clear hW4;go_simp),(touch_cell hb (show wr.heap.size<W4.heap.size by have:=HWs4.out;omega) (by have z1:=HWs3.out;have z2:=HB3.out.size;first|(simp;done)|(simp;omega)|(intro hm;simp at hm;omega))).trans (by rw[←hW4];clear hW4;go_simp),(touch_cell hb (show wr.heap.size<W4.heap.size by have:=HWs4.out;omega) (by have z1:=HWs3.out;have z2:=HB3.out.size;first|(simp;done)|(simp;omega)|(intro hm;simp at hm;omega))).trans (by rw[←hW4];clear hW4;go_simp),(touch_cell hb (show wr.heap.size+1<W4.heap.size by have:=HWs4.out;omega) (by have z1:=HWs3.out;have z2:=HB3.out.size;first|(simp;done)|(simp;omega)|(intro hm;simp at hm;omega))).trans (by rw[←hW4];clear hW4;go_simp),(touch_cell hb (show wr.heap.size+1<W4.heap.size by have:=HWs4.out;omega) (by have z1:=HWs3.out;have z2:=HB3.out.size;first|(simp;done)|(simp;omega)|(intro hm;simp at hm;omega))).trans (by rw[←hW4];clear hW4;go_simp),(touch_cell hb (show wr.heap.size+1+1<W4.heap.size by have:=HWs4.out;omega) (by have z1:=HWs3.out;have z2:=HB3.out.size;first|(simp;done)|(simp;omega)|(intro hm;simp at hm;omega))).trans (by rw[←hW4];clear hW4;go_simp),(touch_cell hb (show wr.heap.size+1+1<W4.heap.size by have:=HWs4.out;omega) (by have z1:=HWs3.out;have z2:=HB3.out.size;first|(simp;done)|(simp;omega)|(intro hm;simp at hm;omega))).trans (by rw[←hW4];clear hW4;go_simp)⟩)
              have HB4:=Lib.hid (Touch.refl (rgG w wo.heap.size) W4)
              clear hW4
              clear q15_0 q15_1 r15_0
              obtain⟨q22_0,q22_1,q22_2,q22_3,q22_4,q22_5,q22_6,q22_7,q22_8⟩:=(HC4 _ HB4.out).out
              have r22_0:=Nat.lt_of_lt_of_le (show w.heap.size<W4.heap.size by have h0:w.heap.size<W3.heap.size:=(by have h0:w.heap.size<W.heap.size:=(by have:=HWs.out;omega);have h2:=HB.out.size;have h3:=HW3.out.size;omega);have h2:=HB3.out.size;have h3:=HW4.out.size;omega) HB4.out.size
              have r22_1:=Nat.lt_of_lt_of_le (show wr.heap.size<W4.heap.size by have:=HWs4.out;omega) HB4.out.size
              have r22_2:=Nat.lt_of_lt_of_le (show wr.heap.size+1<W4.heap.size by have:=HWs4.out;omega) HB4.out.size
              have r22_3:=Nat.lt_of_lt_of_le (show wr.heap.size+1+1<W4.heap.size by have:=HWs4.out;omega) HB4.out.size
              refine((HEN _).out).mono ?_
              rintro e w23 ⟨rfl,hb23⟩
              have HB4:=Lib.hid (touch_next HB4.out (by repeat (first|exact Below.refl _ _|refine below_alloc ?_)) hb23)
              clear q22_0 q22_1 q22_2 q22_3 q22_4 q22_5 q22_6 q22_7 q22_8 r22_0 r22_1 r22_2 r22_3
              obtain⟨q23_0,q23_1,q23_2,q23_3,q23_4,q23_5,q23_6,q23_7,q23_8⟩:=(HC4 _ HB4.out).out
              have HR5:=Lib.hid (HR.out.later (HW4.out.trans (hb23.mono HW4.out.size)));have lk:=HR5.out.pr.look HFQ.out.1 HFQ.out.2;rw[HC5.out] at lk
              clear hb23
              have r23_0:=Nat.lt_of_lt_of_le (show w.heap.size<W4.heap.size by have h0:w.heap.size<W3.heap.size:=(by have h0:w.heap.size<W.heap.size:=(by have:=HWs.out;omega);have h2:=HB.out.size;have h3:=HW3.out.size;omega);have h2:=HB3.out.size;have h3:=HW4.out.size;omega) HB4.out.size
              have r23_1:=Nat.lt_of_lt_of_le (show wr.heap.size<W4.heap.size by have:=HWs4.out;omega) HB4.out.size
              have r23_2:=Nat.lt_of_lt_of_le (show wr.heap.size+1<W4.heap.size by have:=HWs4.out;omega) HB4.out.size
              have r23_3:=Nat.lt_of_lt_of_le (show wr.heap.size+1+1<W4.heap.size by have:=HWs4.out;omega) HB4.out.size
              go_wp2_with fail
              refine((HON _ HR5.out.tch).out).mono ?_
              rintro e w24 ⟨rfl,hb24⟩
              have HB4:=Lib.hid (touch_next HB4.out (by repeat (first|exact Below.refl _ _|refine below_alloc ?_)) hb24)
              clear q23_0 q23_1 q23_2 q23_3 q23_4 q23_5 q23_6 q23_7 q23_8 r23_0 r23_1 r23_2 r23_3
              obtain⟨q24_0,q24_1,q24_2,q24_3,q24_4,q24_5,q24_6,q24_7,q24_8⟩:=(HC4 _ HB4.out).out
              have HR5b:=Lib.hid (HR5.out.later hb24)
              clear hb24
              have r24_0:=Nat.lt_of_lt_of_le (show w.heap.size<W4.heap.size by have h0:w.heap.size<W3.heap.size:=(by have h0:w.heap.size<W.heap.size:=(by have:=HWs.out;omega);have h2:=HB.out.size;have h3:=HW3.out.size;omega);have h2:=HB3.out.size;have h3:=HW4.out.size;omega) HB4.out.size
              have r24_1:=Nat.lt_of_lt_of_le (show wr.heap.size<W4.heap.size by have:=HWs4.out;omega) HB4.out.size
              have r24_2:=Nat.lt_of_lt_of_le (show wr.heap.size+1<W4.heap.size by have:=HWs4.out;omega) HB4.out.size
              have r24_3:=Nat.lt_of_lt_of_le (show wr.heap.size+1+1<W4.heap.size by have:=HWs4.out;omega) HB4.out.size
              go_wp2_with fail
              refine((HEN _).out).mono ?_
              rintro e w25 ⟨rfl,hb25⟩
              have HB4:=Lib.hid (touch_next HB4.out (by repeat (first|exact Below.refl _ _|refine below_alloc ?_)) hb25)
              clear q24_0 q24_1 q24_2 q24_3 q24_4 q24_5 q24_6 q24_7 q24_8 r24_0 r24_1 r24_2 r24_3
              obtain⟨q25_0,q25_1,q25_2,q25_3,q25_4,q25_5,q25_6,q25_7,q25_8⟩:=(HC4 _ HB4.out).out
              have HR6:=Lib.hid (HR5b.out.later hb25)
              clear hb25
              have r25_0:=Nat.lt_of_lt_of_le (show w.heap.size<W4.heap.size by have h0:w.heap.size<W3.heap.size:=(by have h0:w.heap.size<W.heap.size:=(by have:=HWs.out;omega);have h2:=HB.out.size;have h3:=HW3.out.size;omega);have h2:=HB3.out.size;have h3:=HW4.out.size;omega) HB4.out.size
              have r25_1:=Nat.lt_of_lt_of_le (show wr.heap.size<W4.heap.size by have:=HWs4.out;omega) HB4.out.size
              have r25_2:=Nat.lt_of_lt_of_le (show wr.heap.size+1<W4.heap.size by have:=HWs4.out;omega) HB4.out.size
              have r25_3:=Nat.lt_of_lt_of_le (show wr.heap.size+1+1<W4.heap.size by have:=HWs4.out;omega) HB4.out.size
              go_wp2_with (first|(at_mapUpdate;refine wpList_update_T _ rfl _ _ _ 102 rfl 79 4 Try.keyPair Try.underlying102 wo.heap.size j ekQ evB (pairM (p.es.take j)) HR6.out.pr rfl (by unfold maxLen;omega) (ends e) _ rfl HKQ.out (ekQ_inj _) true rfl ?_;intro w7 hm7 hg7;have HB4:=Lib.hid (touch_grown HB4.out (by repeat (first|exact Below.refl _ _|refine below_alloc ?_)) hg7 (by simp));clear q25_0 q25_1 q25_2 q25_3 q25_4 q25_5 q25_6 q25_7 q25_8 r25_0 r25_1 r25_2 r25_3;obtain⟨q26_0,q26_1,q26_2,q26_3,q26_4,q26_5,q26_6,q26_7,q26_8⟩:=(HC4 _ HB4.out).out;have r26_0:=Nat.lt_of_lt_of_le (show w.heap.size<W4.heap.size by have h0:w.heap.size<W3.heap.size:=(by have h0:w.heap.size<W.heap.size:=(by have:=HWs.out;omega);have h2:=HB.out.size;have h3:=HW3.out.size;omega);have h2:=HB3.out.size;have h3:=HW4.out.size;omega) HB4.out.size;have r26_1:=Nat.lt_of_lt_of_le (show wr.heap.size<W4.heap.size by have:=HWs4.out;omega) HB4.out.size;have r26_2:=Nat.lt_of_lt_of_le (show wr.heap.size+1<W4.heap.size by have:=HWs4.out;omega) HB4.out.size;have r26_3:=Nat.lt_of_lt_of_le (show wr.heap.size+1+1<W4.heap.size by have:=HWs4.out;omega) HB4.out.size;have HR7:=HR6.out.keep hg7 hm7 HPne.out;have HM7:=Lib.hid hm7;have HG7:=Lib.hid hg7;clear hm7 hg7))
              refine wp_name (fun c27 hc27=> ?_)
              have HB4:=Lib.hid (touch_name HB4.out (by repeat (first|exact Below.refl _ _|refine below_alloc ?_)) hc27)
              have HCRL:=fun(x:Later c27)=>HCR x.1 (touch_later (hc27▸HR7.out) x.2)
              clear hc27
              have x27_0:=fun(x:Later c27)=>(HC4 _ (touch_later HB4.out x.2)).out.1
              have x27_1:=fun(x:Later c27)=>(HC4 _ (touch_later HB4.out x.2)).out.2.1
              have x27_2:=fun(x:Later c27)=>(HC4 _ (touch_later HB4.out x.2)).out.2.2.1
              have x27_3:=fun(x:Later c27)=>(HC4 _ (touch_later HB4.out x.2)).out.2.2.2.1
              have x27_4:=fun(x:Later c27)=>(HC4 _ (touch_later HB4.out x.2)).out.2.2.2.2.1
              have x27_5:=fun(x:Later c27)=>(HC4 _ (touch_later HB4.out x.2)).out.2.2.2.2.2.1
              have x27_6:=fun(x:Later c27)=>(HC4 _ (touch_later HB4.out x.2)).out.2.2.2.2.2.2.1
              have x27_7:=fun(x:Later c27)=>(HC4 _ (touch_later HB4.out x.2)).out.2.2.2.2.2.2.2.1
              have x27_8:=fun(x:Later c27)=>(HC4 _ (touch_later HB4.out x.2)).out.2.2.2.2.2.2.2.2
              refine wp_region_later (by kernel_rfl) (by kernel_rfl) ?_
              repeat (first|go_big_quiet_step (((go_at_call 42;with_reducible refine Later.call (HCRL _).out)))|quiet_step (((go_at_call 42;with_reducible refine Later.call (HCRL _).out))))
              refine wpQuiet_nil ?_
              intro w27 hw27
              have hb27:=later_below hw27
              clear hw27
              have HB4:=Lib.hid (touch_later HB4.out hb27)
              clear x27_0 x27_1 x27_2 x27_3 x27_4 x27_5 x27_6 x27_7 x27_8
              clear q26_0 q26_1 q26_2 q26_3 q26_4 q26_5 q26_6 q26_7 q26_8 r26_0 r26_1 r26_2 r26_3
              obtain⟨q27_0,q27_1,q27_2,q27_3,q27_4,q27_5,q27_6,q27_7,q27_8⟩:=(HC4 _ HB4.out).out
              skip
              clear hb27
              have r27_0:=Nat.lt_of_lt_of_le (show w.heap.size<W4.heap.size by have h0:w.heap.size<W3.heap.size:=(by have h0:w.heap.size<W.heap.size:=(by have:=HWs.out;omega);have h2:=HB.out.size;have h3:=HW3.out.size;omega);have h2:=HB3.out.size;have h3:=HW4.out.size;omega) HB4.out.size
              have r27_1:=Nat.lt_of_lt_of_le (show wr.heap.size<W4.heap.size by have:=HWs4.out;omega) HB4.out.size
              have r27_2:=Nat.lt_of_lt_of_le (show wr.heap.size+1<W4.heap.size by have:=HWs4.out;omega) HB4.out.size
              have r27_3:=Nat.lt_of_lt_of_le (show wr.heap.size+1+1<W4.heap.size by have:=HWs4.out;omega) HB4.out.size
              go_wp2_with fail
              have HB3:=Lib.hid (touch_in HB3.out HW4.out HB4.out (by intro b hb;have h1:=HB3.out.size;first|exact .inl hb|(simp at hb ⊢;omega)))
              clear q27_0 q27_1 q27_2 q27_3 q27_4 q27_5 q27_6 q27_7 q27_8 r27_0 r27_1 r27_2 r27_3
              have HB:=Lib.hid (touch_in HB.out HW3.out HB3.out (by intro b hb;have h1:=HB.out.size;first|exact .inl hb|(simp at hb ⊢;omega)))
              go_ret
              exact⟨by rw[F.out];rfl,HW.out.trans (Touch.below HB.out HW.out.size HFF.out)⟩
            ·rw[c6] at HON
             have F:=Lib.hid (rightB_no (p:=p) (fun h=>by
              rw[List.any_eq_true] at c6
              obtain⟨v,hv,hm⟩:=c6
              obtain⟨A1,B1,hh⟩:=h.e j e HEK.out
              have e1:=hh.pa
              have e2:=hh.pb
              rw[HPA.out] at e1
              rw[HPB.out] at e2
              cases e1
              cases e2
              have:=hh.way v hv
              rw[hm] at this;cases this))
             clear c6
             go_wp2_with fail
             first|refine wp_name (fun W4 hW4=> ?_)|refine calls_name (fun W4 hW4=> ?_)
             have HW4:Hid (Below wr.heap.size wr W4):=Lib.hid (by rw[←hW4];repeat (first|exact Below.refl _ _|refine below_alloc ?_))
             have HWs4:Hid (W4.heap.size=wr.heap.size+1+1+1):=Lib.hid (by rw[←hW4];simp)
             skip
             have HC4:=fun(W1:World) (hb:Touch (rgG w wo.heap.size) W4 W1)=>Lib.hid (show W1.cell? ⟨w.heap.size,0,none⟩=some (.slice va vn vc)∧W1.cell? ⟨w.heap.size,1,none⟩=some (.slice (some ⟨eb,eoff,none⟩) en ec)∧W1.cell? ⟨wr.heap.size,0,none⟩=some (.int .i64 e.id)∧W1.cell? ⟨wr.heap.size,1,none⟩=some (.int .i64 e.a)∧W1.cell? ⟨wr.heap.size,2,none⟩=some (.int .i64 e.b)∧W1.cell? ⟨wr.heap.size+1,0,none⟩=some (.int .i64 A.x)∧W1.cell? ⟨wr.heap.size+1,1,none⟩=some (.int .i64 A.y)∧W1.cell? ⟨wr.heap.size+1+1,0,none⟩=some (.int .i64 B'.x)∧W1.cell? ⟨wr.heap.size+1+1,1,none⟩=some (.int .i64 B'.y) from by have ho:=(HC3 W1 (touch_in HB3.out HW4.out hb (by intro b hb;have h1:=HB3.out.size;first|exact .inl hb|(simp at hb ⊢;omega)))).out;exact⟨ho.1,ho.2,(touch_cell hb (show wr.heap.size<W4.heap.size by have:=HWs4.out;omega) (by have z1:=HWs3.out;have z2:=HB3.out.size;first|(simp;done)|(simp;omega)|(intro hm;simp at hm;omega))).trans (by rw[←hW4];clear hW4;go_simp),(touch_cell hb (show wr.heap.size<W4.heap.size by have:=HWs4.out;omega) (by have z1:=HWs3.out;have z2:=HB3.out.size;first|(simp;done)|(simp;omega)|(intro hm;simp at hm;omega))).trans (by rw[←hW4];clear hW4;go_simp),(touch_cell hb (show wr.heap.size<W4.heap.size by have:=HWs4.out;omega) (by have z1:=HWs3.out;have z2:=HB3.out.size;first|(simp;done)|(simp;omega)|(intro hm;simp at hm;omega))).trans (by rw[←hW4];clear hW4;go_simp),(touch_cell hb (show wr.heap.size+1<W4.heap.size by have:=HWs4.out;omega) (by have z1:=HWs3.out;have z2:=HB3.out.size;first|(simp;done)|(simp;omega)|(intro hm;simp at hm;omega))).trans (by rw[←hW4];clear hW4;go_simp),(touch_cell hb (show wr.heap.size+1<W4.heap.size by have:=HWs4.out;omega) (by have z1:=HWs3.out;have z2:=HB3.out.size;first|(simp;done)|(simp;omega)|(intro hm;simp at hm;omega))).trans (by rw[←hW4];clear hW4;go_simp),(touch_cell hb (show wr.heap.size+1+1<W4.heap.size by have:=HWs4.out;omega) (by have z1:=HWs3.out;have z2:=HB3.out.size;first|(simp;done)|(simp;omega)|(intro hm;simp at hm;omega))).trans (by rw[←hW4];clear hW4;go_simp),(touch_cell hb (show wr.heap.size+1+1<W4.heap.size by have:=HWs4.out;omega) (by have z1:=HWs3.out;have z2:=HB3.out.size;first|(simp;done)|(simp;omega)|(intro hm;simp at hm;omega))).trans (by rw[←hW4];clear hW4;go_simp)⟩)
             have HB4:=Lib.hid (Touch.refl (rgG w wo.heap.size) W4)
             clear hW4
             clear q15_0 q15_1 r15_0
             obtain⟨q31_0,q31_1,q31_2,q31_3,q31_4,q31_5,q31_6,q31_7,q31_8⟩:=(HC4 _ HB4.out).out
             have r31_0:=Nat.lt_of_lt_of_le (show w.heap.size<W4.heap.size by have h0:w.heap.size<W3.heap.size:=(by have h0:w.heap.size<W.heap.size:=(by have:=HWs.out;omega);have h2:=HB.out.size;have h3:=HW3.out.size;omega);have h2:=HB3.out.size;have h3:=HW4.out.size;omega) HB4.out.size
             have r31_1:=Nat.lt_of_lt_of_le (show wr.heap.size<W4.heap.size by have:=HWs4.out;omega) HB4.out.size
             have r31_2:=Nat.lt_of_lt_of_le (show wr.heap.size+1<W4.heap.size by have:=HWs4.out;omega) HB4.out.size
             have r31_3:=Nat.lt_of_lt_of_le (show wr.heap.size+1+1<W4.heap.size by have:=HWs4.out;omega) HB4.out.size
             refine((HEN _).out).mono ?_
             rintro e w32 ⟨rfl,hb32⟩
             have HB4:=Lib.hid (touch_next HB4.out (by repeat (first|exact Below.refl _ _|refine below_alloc ?_)) hb32)
             clear q31_0 q31_1 q31_2 q31_3 q31_4 q31_5 q31_6 q31_7 q31_8 r31_0 r31_1 r31_2 r31_3
             obtain⟨q32_0,q32_1,q32_2,q32_3,q32_4,q32_5,q32_6,q32_7,q32_8⟩:=(HC4 _ HB4.out).out
             have HR5:=Lib.hid (HR.out.later (HW4.out.trans (hb32.mono HW4.out.size)));have lk:=HR5.out.pr.look HFQ.out.1 HFQ.out.2;rw[HC5.out] at lk
             clear hb32
             have r32_0:=Nat.lt_of_lt_of_le (show w.heap.size<W4.heap.size by have h0:w.heap.size<W3.heap.size:=(by have h0:w.heap.size<W.heap.size:=(by have:=HWs.out;omega);have h2:=HB.out.size;have h3:=HW3.out.size;omega);have h2:=HB3.out.size;have h3:=HW4.out.size;omega) HB4.out.size
             have r32_1:=Nat.lt_of_lt_of_le (show wr.heap.size<W4.heap.size by have:=HWs4.out;omega) HB4.out.size
             have r32_2:=Nat.lt_of_lt_of_le (show wr.heap.size+1<W4.heap.size by have:=HWs4.out;omega) HB4.out.size
             have r32_3:=Nat.lt_of_lt_of_le (show wr.heap.size+1+1<W4.heap.size by have:=HWs4.out;omega) HB4.out.size
             go_wp2_with fail
             refine((HON _ HR5.out.tch).out).mono ?_
             rintro e w33 ⟨rfl,hb33⟩
             have HB4:=Lib.hid (touch_next HB4.out (by repeat (first|exact Below.refl _ _|refine below_alloc ?_)) hb33)
             clear q32_0 q32_1 q32_2 q32_3 q32_4 q32_5 q32_6 q32_7 q32_8 r32_0 r32_1 r32_2 r32_3
             obtain⟨q33_0,q33_1,q33_2,q33_3,q33_4,q33_5,q33_6,q33_7,q33_8⟩:=(HC4 _ HB4.out).out
             clear hb33
             have r33_0:=Nat.lt_of_lt_of_le (show w.heap.size<W4.heap.size by have h0:w.heap.size<W3.heap.size:=(by have h0:w.heap.size<W.heap.size:=(by have:=HWs.out;omega);have h2:=HB.out.size;have h3:=HW3.out.size;omega);have h2:=HB3.out.size;have h3:=HW4.out.size;omega) HB4.out.size
             have r33_1:=Nat.lt_of_lt_of_le (show wr.heap.size<W4.heap.size by have:=HWs4.out;omega) HB4.out.size
             have r33_2:=Nat.lt_of_lt_of_le (show wr.heap.size+1<W4.heap.size by have:=HWs4.out;omega) HB4.out.size
             have r33_3:=Nat.lt_of_lt_of_le (show wr.heap.size+1+1<W4.heap.size by have:=HWs4.out;omega) HB4.out.size
             go_wp2_with fail
             have HB3:=Lib.hid (touch_in HB3.out HW4.out HB4.out (by intro b hb;have h1:=HB3.out.size;first|exact .inl hb|(simp at hb ⊢;omega)))
             clear q33_0 q33_1 q33_2 q33_3 q33_4 q33_5 q33_6 q33_7 q33_8 r33_0 r33_1 r33_2 r33_3
             have HB:=Lib.hid (touch_in HB.out HW3.out HB3.out (by intro b hb;have h1:=HB.out.size;first|exact .inl hb|(simp at hb ⊢;omega)))
             go_ret
             exact⟨by rw[F.out];rfl,HW.out.trans (Touch.below HB.out HW.out.size HFF.out)⟩
           ·have F:=Lib.hid (rightB_no (p:=p) (fun h=>by
             obtain⟨f,hf,hm⟩:=pairB_iff.1 c5
             obtain⟨i,hi,hf⟩:=mem_take.1 hf
             obtain⟨A1,B1,hh⟩:=h.e j e HEK.out
             exact hh.pair i f hi hf hm))
            have HC5:=Lib.hid c5
            clear c5
            go_wp2_with fail
            first|refine wp_name (fun W4 hW4=> ?_)|refine calls_name (fun W4 hW4=> ?_)
            have HW4:Hid (Below wr.heap.size wr W4):=Lib.hid (by rw[←hW4];repeat (first|exact Below.refl _ _|refine below_alloc ?_))
            have HWs4:Hid (W4.heap.size=wr.heap.size+1+1+1):=Lib.hid (by rw[←hW4];simp)
            skip
            have HC4:=fun(W1:World) (hb:Touch (rgG w wo.heap.size) W4 W1)=>Lib.hid (show W1.cell? ⟨w.heap.size,0,none⟩=some (.slice va vn vc)∧W1.cell? ⟨w.heap.size,1,none⟩=some (.slice (some ⟨eb,eoff,none⟩) en ec)∧W1.cell? ⟨wr.heap.size,0,none⟩=some (.int .i64 e.id)∧W1.cell? ⟨wr.heap.size,1,none⟩=some (.int .i64 e.a)∧W1.cell? ⟨wr.heap.size,2,none⟩=some (.int .i64 e.b)∧W1.cell? ⟨wr.heap.size+1,0,none⟩=some (.int .i64 A.x)∧W1.cell? ⟨wr.heap.size+1,1,none⟩=some (.int .i64 A.y)∧W1.cell? ⟨wr.heap.size+1+1,0,none⟩=some (.int .i64 B'.x)∧W1.cell? ⟨wr.heap.size+1+1,1,none⟩=some (.int .i64 B'.y) from by have ho:=(HC3 W1 (touch_in HB3.out HW4.out hb (by intro b hb;have h1:=HB3.out.size;first|exact .inl hb|(simp at hb ⊢;omega)))).out;exact⟨ho.1,ho.2,(touch_cell hb (show wr.heap.size<W4.heap.size by have:=HWs4.out;omega) (by have z1:=HWs3.out;have z2:=HB3.out.size;first|(simp;done)|(simp;omega)|(intro hm;simp at hm;omega))).trans (by rw[←hW4];clear hW4;go_simp),(touch_cell hb (show wr.heap.size<W4.heap.size by have:=HWs4.out;omega) (by have z1:=HWs3.out;have z2:=HB3.out.size;first|(simp;done)|(simp;omega)|(intro hm;simp at hm;omega))).trans (by rw[←hW4];clear hW4;go_simp),(touch_cell hb (show wr.heap.size<W4.heap.size by have:=HWs4.out;omega) (by have z1:=HWs3.out;have z2:=HB3.out.size;first|(simp;done)|(simp;omega)|(intro hm;simp at hm;omega))).trans (by rw[←hW4];clear hW4;go_simp),(touch_cell hb (show wr.heap.size+1<W4.heap.size by have:=HWs4.out;omega) (by have z1:=HWs3.out;have z2:=HB3.out.size;first|(simp;done)|(simp;omega)|(intro hm;simp at hm;omega))).trans (by rw[←hW4];clear hW4;go_simp),(touch_cell hb (show wr.heap.size+1<W4.heap.size by have:=HWs4.out;omega) (by have z1:=HWs3.out;have z2:=HB3.out.size;first|(simp;done)|(simp;omega)|(intro hm;simp at hm;omega))).trans (by rw[←hW4];clear hW4;go_simp),(touch_cell hb (show wr.heap.size+1+1<W4.heap.size by have:=HWs4.out;omega) (by have z1:=HWs3.out;have z2:=HB3.out.size;first|(simp;done)|(simp;omega)|(intro hm;simp at hm;omega))).trans (by rw[←hW4];clear hW4;go_simp),(touch_cell hb (show wr.heap.size+1+1<W4.heap.size by have:=HWs4.out;omega) (by have z1:=HWs3.out;have z2:=HB3.out.size;first|(simp;done)|(simp;omega)|(intro hm;simp at hm;omega))).trans (by rw[←hW4];clear hW4;go_simp)⟩)
            have HB4:=Lib.hid (Touch.refl (rgG w wo.heap.size) W4)
            clear hW4
            clear q15_0 q15_1 r15_0
            obtain⟨q37_0,q37_1,q37_2,q37_3,q37_4,q37_5,q37_6,q37_7,q37_8⟩:=(HC4 _ HB4.out).out
            have r37_0:=Nat.lt_of_lt_of_le (show w.heap.size<W4.heap.size by have h0:w.heap.size<W3.heap.size:=(by have h0:w.heap.size<W.heap.size:=(by have:=HWs.out;omega);have h2:=HB.out.size;have h3:=HW3.out.size;omega);have h2:=HB3.out.size;have h3:=HW4.out.size;omega) HB4.out.size
            have r37_1:=Nat.lt_of_lt_of_le (show wr.heap.size<W4.heap.size by have:=HWs4.out;omega) HB4.out.size
            have r37_2:=Nat.lt_of_lt_of_le (show wr.heap.size+1<W4.heap.size by have:=HWs4.out;omega) HB4.out.size
            have r37_3:=Nat.lt_of_lt_of_le (show wr.heap.size+1+1<W4.heap.size by have:=HWs4.out;omega) HB4.out.size
            refine((HEN _).out).mono ?_
            rintro e w38 ⟨rfl,hb38⟩
            have HB4:=Lib.hid (touch_next HB4.out (by repeat (first|exact Below.refl _ _|refine below_alloc ?_)) hb38)
            clear q37_0 q37_1 q37_2 q37_3 q37_4 q37_5 q37_6 q37_7 q37_8 r37_0 r37_1 r37_2 r37_3
            obtain⟨q38_0,q38_1,q38_2,q38_3,q38_4,q38_5,q38_6,q38_7,q38_8⟩:=(HC4 _ HB4.out).out
            have HR5:=Lib.hid (HR.out.later (HW4.out.trans (hb38.mono HW4.out.size)));have lk:=HR5.out.pr.look HFQ.out.1 HFQ.out.2;rw[HC5.out] at lk
            clear hb38
            have r38_0:=Nat.lt_of_lt_of_le (show w.heap.size<W4.heap.size by have h0:w.heap.size<W3.heap.size:=(by have h0:w.heap.size<W.heap.size:=(by have:=HWs.out;omega);have h2:=HB.out.size;have h3:=HW3.out.size;omega);have h2:=HB3.out.size;have h3:=HW4.out.size;omega) HB4.out.size
            have r38_1:=Nat.lt_of_lt_of_le (show wr.heap.size<W4.heap.size by have:=HWs4.out;omega) HB4.out.size
            have r38_2:=Nat.lt_of_lt_of_le (show wr.heap.size+1<W4.heap.size by have:=HWs4.out;omega) HB4.out.size
            have r38_3:=Nat.lt_of_lt_of_le (show wr.heap.size+1+1<W4.heap.size by have:=HWs4.out;omega) HB4.out.size
            go_wp2_with fail
            have HB3:=Lib.hid (touch_in HB3.out HW4.out HB4.out (by intro b hb;have h1:=HB3.out.size;first|exact .inl hb|(simp at hb ⊢;omega)))
            clear q38_0 q38_1 q38_2 q38_3 q38_4 q38_5 q38_6 q38_7 q38_8 r38_0 r38_1 r38_2 r38_3
            have HB:=Lib.hid (touch_in HB.out HW3.out HB3.out (by intro b hb;have h1:=HB.out.size;first|exact .inl hb|(simp at hb ⊢;omega)))
            go_ret
            exact⟨by rw[F.out];rfl,HW.out.trans (Touch.below HB.out HW.out.size HFF.out)⟩
      ·obtain rfl:en=j:=by omega
       have F:=Lib.hid ((rightB_iff (p:=p)).2 ⟨by have:=HV.out.1;omega,by have:=HE.out.1;omega,HRV.out,fun i e hi=>HR.out.ok i e (by have:=(List.getElem?_eq_some_iff.1 hi).1;have:=HE.out.1;omega) hi⟩)
       go_wp2_with fail
       have HB:=Lib.hid (touch_in HB.out HW3.out HB3.out (by intro b hb;have h1:=HB.out.size;first|exact .inl hb|(simp at hb ⊢;omega)))
       clear q15_0 q15_1 r15_0
       go_ret
       exact⟨by rw[F.out];rfl,HW.out.trans (Touch.below HB.out HW.out.size HFF.out)⟩
end Go.Proofs.Ythopjhifepijiaa
namespace Go.Proofs.Ythopjhifepijiaa
open Go.RowKit Go.Joins
open Go.Maps (Keyed)
def HsIn (w:World) (B:Nat) (a:Option Addr) (n:Nat) (R:List Hf):Prop:=n=R.length∧(n=0∨ ∃b off,a=some ⟨b,off,none⟩∧b<B∧HsAt w b off R)
theorem HsIn.below {w w':World} {B:Nat} {a:Option Addr} {n:Nat} {R:List Hf} (h:HsIn w B a n R) (k:Below B w w'):HsIn w' B a n R:=
 ⟨h.1,h.2.imp id (fun⟨b,off,e,hb,hs⟩=>⟨b,off,e,hb,hs.below k hb⟩)⟩
theorem HsIn.mono {w:World} {B B':Nat} {a:Option Addr} {n:Nat} {R:List Hf} (h:HsIn w B a n R) (k:B≤B'):HsIn w B' a n R:=
 ⟨h.1,h.2.imp id (fun⟨b,off,e,hb,hs⟩=>⟨b,off,e,Nat.lt_of_lt_of_le hb k,hs⟩)⟩
theorem HsIn.at_ {w:World} {B:Nat} {a:Option Addr} {n:Nat} {R:List Hf} (h:HsIn w B a n R) {k:Nat} (hk:k<n): ∃b off x,a=some ⟨b,off,none⟩∧b<B∧R[k]? =some x∧w.cell? ⟨b,off+k*2,none⟩=some (.int .i64 x.edge)∧w.cell? ⟨b,off+k*2+1,none⟩=some (.bool x.back):=by
 obtain⟨h1,h2|⟨b,off,e,hb,hs⟩⟩:=h
 ·omega
 ·have hx:=List.getElem?_eq_getElem (l:=R) (i:=k) (by omega)
  exact⟨b,off,_,e,hb,hx,hs k _ hx⟩
def RgIn (w:World) (B:Nat) (a:Option Addr) (n:Nat) (L:List (List Hf)):Prop:=n=L.length∧(n=0∨ ∃b off,a=some ⟨b,off,none⟩∧b<B∧ ∀(i:Nat) (R:List Hf),L[i]? =some R→ ∃a' c,w.cell? ⟨b,off+i,none⟩=some (.slice a' R.length c)∧HsIn w B a' R.length R)
theorem RgIn.below {w w':World} {B:Nat} {a:Option Addr} {n:Nat} {L:List (List Hf)} (h:RgIn w B a n L) (k:Below B w w'):RgIn w' B a n L:=
 ⟨h.1,h.2.imp id (fun⟨b,off,e,hb,hs⟩=>⟨b,off,e,hb,fun i R hi=>by
  obtain⟨a',c,hc,hr⟩:=hs i R hi
  exact⟨a',c,(k.cell (p:=⟨b,_,none⟩) hb).trans hc,hr.below k⟩⟩)⟩
theorem RgIn.mono {w:World} {B B':Nat} {a:Option Addr} {n:Nat} {L:List (List Hf)} (h:RgIn w B a n L) (k:B≤B'):RgIn w B' a n L:=
 ⟨h.1,h.2.imp id (fun⟨b,off,e,hb,hs⟩=>⟨b,off,e,Nat.lt_of_lt_of_le hb k,fun i R hi=>by
  obtain⟨a',c,hc,hr⟩:=hs i R hi
  exact⟨a',c,hc,hr.mono k⟩⟩)⟩
theorem RgIn.at_ {w:World} {B:Nat} {a:Option Addr} {n:Nat} {L:List (List Hf)} (h:RgIn w B a n L) {k:Nat} (hk:k<n): ∃b off R a' c,a=some ⟨b,off,none⟩∧b<B∧L[k]? =some R∧w.cell? ⟨b,off+k,none⟩=some (.slice a' R.length c)∧HsIn w B a' R.length R:=by
 obtain⟨h1,h2|⟨b,off,e,hb,hs⟩⟩:=h
 ·omega
 ·have hx:=List.getElem?_eq_getElem (l:=L) (i:=k) (by omega)
  obtain⟨a',c,hc,hr⟩:=hs k _ hx
  exact⟨b,off,_,a',c,e,hb,hx,hc,hr⟩
def RgOut (lo:Nat) (w:World) (a:Option Addr) (L:List (List Hf)):Prop:=L=[]∨ ∃b,a=some ⟨b,0,none⟩∧lo≤b∧b<w.heap.size∧ ∀(i:Nat) (R:List Hf),L[i]? =some R→ ∃g c,w.cell? ⟨b,i,none⟩=some (.slice (some ⟨g,0,none⟩) R.length c)∧lo≤g∧g<w.heap.size∧HsAt w g 0 R
theorem RgOut.mono {lo lo':Nat} {w:World} {a:Option Addr} {L:List (List Hf)} (h:RgOut lo w a L) (k:lo'≤lo):RgOut lo' w a L:=
 h.imp id (fun⟨b,e,h1,h2,hs⟩=>⟨b,e,Nat.le_trans k h1,h2,fun i R hi=>by
  obtain⟨g,c,e1,h3,h4,h5⟩:=hs i R hi
  exact⟨g,c,e1,Nat.le_trans k h3,h4,h5⟩⟩)
def RiS (t:TypeId) (lo:Nat) (w:World) (v:Value) (L:List (List Hf)):Prop:= ∃xs:List Value,w.ownsRow lo t 1 v L.length xs∧
 ∀(i:Nat) (R:List Hf),L[i]? =some R→ ∃g c,xs[i]? =some (.slice (some ⟨g,0,none⟩) R.length c)∧lo≤g∧g<w.heap.size∧v.ownBlock≠some g∧HsAt w g 0 R
section
variable {t:TypeId} {lo:Nat} {w w' w2:World} {v v':Value} {L:List (List Hf)}
theorem RiS.nil (t:TypeId) (lo:Nat) (w:World):RiS t lo w (.slice none 0 0) []:=⟨[],World.ownsRow_nil _ _ _ _,fun i R h=>by simp at h⟩
theorem RiS.touch {F:List Nat} (h:RiS t lo w v L) (k:Touch F w w') (hF: ∀b∈F,b<lo):RiS t lo w' v L:=by
 obtain⟨xs,ho,hs⟩:=h
 refine⟨xs,ownsRow_touch ho k (fun g hg hm=>by have:=hF g hm;have:=(ho.lt g hg).1;omega),fun i R hi=> ?_⟩
 obtain⟨g,c,e,h1,h2,h3,h4⟩:=hs i R hi
 exact⟨g,c,e,h1,Nat.lt_of_lt_of_le h2 k.size,h3,h4.touch k h2 (fun hm=>by have:=hF g hm;omega)⟩
theorem RiS.lt (h:RiS t lo w v L) {g:Nat} (hg:v.ownBlock=some g):lo≤g∧g<w.heap.size:=h.elim fun xs h=>h.1.lt g hg
theorem RiS.own (h:RiS t lo w v L): ∃xs,w.ownsRow lo t 1 v L.length xs:=h.elim fun xs h=>⟨xs,h.1⟩
theorem RiS.add (h:RiS t lo w v L) {R:List Hf} {g c g' cap:Nat} (hlo:lo≤g) (hlt:g<w.heap.size) (hne:v.ownBlock≠some g) (hR:HsAt w g 0 R) {xs:List Value} (hxs:w.ownsRow lo t 1 v L.length xs) (b:Below w.heap.size w w2)
  (ho:w'.ownsRow lo t 1 (.slice (some ⟨g',0,none⟩) (L.length+1) cap) (L.length+1) (xs++[.slice (some ⟨g,0,none⟩) R.length c])) (k:w2.grownBy w' v.ownBlock) (hat:v.ownBlock=some g'∨w2.heap.size≤g'):RiS t lo w' (.slice (some ⟨g',0,none⟩) (L.length+1) cap) (L++[R]):=by
 obtain⟨ys,hy,hs⟩:=h
 have e:ys=xs:=by
  rcases hy.2 with h0|⟨q,cq,cur,hv, -,hg, -, -, -,ht⟩
  ·rcases hxs.2 with h1|⟨q,cq,cur,hv, -⟩
   ·have h2:=hy.1
    have h3:=hxs.1
    have l0:L.length=0:=h0.2
    rw[l0] at h2 h3
    simp at h2 h3
    rw[h2,h3]
   ·rw[h0.1] at hv;cases hv
  ·rcases hxs.2 with h1|⟨q2,cq2,cur2,hv2, -,hg2, -, -, -,ht2⟩
   ·rw[h1.1] at hv;cases hv
   ·rw[hv] at hv2
    cases hv2
    rw[hg] at hg2
    cases hg2
    rw[←ht, ←ht2]
 subst e
 have kk:=(Touch.of_below (F:=v.ownBlock.toList) b).trans (Touch.of_grown k) (fun x hx=> .inl hx)
 have hle:w.heap.size≤w2.heap.size:=b.size
 refine⟨_,by rw[List.length_append];exact ho,fun i S hi=> ?_⟩
 have hyl:ys.length=L.length:=by have:=hy.1;omega
 by_cases hil:i<L.length
 ·rw[List.getElem?_append_left hil] at hi
  obtain⟨q,cq,e1,h1,h2,h3,h4⟩:=hs i S hi
  refine⟨q,cq,by rw[List.getElem?_append_left (by omega)];exact e1,h1,Nat.lt_of_lt_of_le h2 kk.size,fun e2=> ?_,h4.touch kk h2 (fun hm=>h3 (Option.mem_toList.1 hm))⟩
  simp[Value.ownBlock] at e2
  subst e2
  rcases hat with h5|h5
  ·exact h3 h5
  ·omega
 ·rw[List.getElem?_append_right (by omega)] at hi
  have hi0:i - L.length=0:=by
   have:=(List.getElem?_eq_some_iff.1 hi).1
   simp at this;omega
  rw[hi0] at hi
  simp at hi
  subst hi
  refine⟨g,c,by rw[List.getElem?_append_right (by omega),hyl,hi0];rfl,hlo,Nat.lt_of_lt_of_le hlt kk.size,fun e2=> ?_,hR.touch kk hlt (fun hm=>hne (Option.mem_toList.1 hm))⟩
  simp[Value.ownBlock] at e2
  subst e2
  rcases hat with h5|h5
  ·exact hne h5
  ·omega
theorem RiS.rg (h:RiS t lo w v L): ∃a c,v= .slice a L.length c∧RgOut lo w a L:=by
 obtain⟨xs,ho,hs⟩:=h
 obtain⟨a,c,rfl⟩:=own_form ho
 refine⟨a,c,rfl, ?_⟩
 rcases Nat.eq_zero_or_pos L.length with h0|h0
 ·exact .inl (List.eq_nil_of_length_eq_zero h0)
 ·obtain⟨g,cap,e⟩:=ownsRow_form ho h0
  injection e with e1 e2 e3
  subst e1
  refine .inr ⟨g,rfl,(ho.lt g rfl).1,(ho.lt g rfl).2,fun i R hi=> ?_⟩
  obtain⟨q,cq,e1,h1,h2,h3,h4⟩:=hs i R hi
  have hc:=(addr_add0 g i)▸ho.cells (g:=g) rfl (j:=i) (u:=_) e1
  exact⟨q,cq,hc,h1,h2,h4⟩
end
def mtM (l:List Hf) (h:Hf):Option Bool:=if h∈l then some true else none
theorem mtM_nil:mtM []=fun _=>none:=by funext h;simp[mtM]
theorem mtM_snoc (l:List Hf) (h:Hf):updT (mtM l) h true=mtM (l++[h]):=by
 funext x
 unfold updT mtM
 by_cases e:x=h
 ·subst e;simp
 ·simp[e]
theorem look_mt {w:World} {P:Program} {k e t:TypeId} {b n:Nat} {l:List Hf} (h:MapT w P k b n ekH (fun b:Bool=>Value.bool b) (mtM l)) (K:Keyed P k) (ht:P.underlying t=some (.map k e)) (hz:(zeroValue e).run P w= .ok (.bool false) w) {x:Hf} {q:Lit} (hk:keyOf P k (ekH x)=some q):
  (Instr.lookup t (.map (some b)) (.agg #[.int .i64 x.edge, .bool x.back]) false).run P w= .ok (.bool (decide (x∈l))) w:=by
 have:=h.look K ht hz hk
 unfold mtM at this
 by_cases e:x∈l
 ·rw[if_pos e] at this;rw[decide_eq_true e];exact this
 ·rw[if_neg e] at this;rw[decide_eq_false e];exact this
theorem rings_step {f:Hf→Hf} {n:Nat} (hn:0<n) (h:Hf) (l met:List Hf) (L:List (List Hf)):L++ringsF f n (h::l) met=(if orbF f n met h=[] then L else L++[orbF f n met h])++ringsF f n l (met++orbF f n met h):=by
 obtain⟨k,rfl⟩: ∃k,n=k+1:=⟨n - 1,by omega⟩
 by_cases hm:h∈met
 ·have e:orbF f (k+1) met h=[]:=by simp[orbF,hm]
  rw[if_pos e,e,List.append_nil]
  conv=>lhs;unfold ringsF
  rw[if_pos hm]
 ·have e:orbF f (k+1) met h≠ []:=by simp[orbF,hm]
  rw[if_neg e]
  conv=>lhs;unfold ringsF
  rw[if_neg hm,List.append_assoc]
  rfl
structure OrbS (p:PL) (M:List Hf) (h0:Hf) (R:List Hf) (h:Hf):Prop where
 go: ∃m,0<m∧R++orbF (nextP p) m (M++R) h=orbF (nextP p) (2*p.es.length+1) M h0∧m+R.length=2*p.es.length+1
 nd:(M++R).Nodup
 mem: ∀x∈M++R,x∈halvesE p.es
 hm:h∈halvesE p.es
section
variable {p:PL} {M R:List Hf} {h0 h:Hf}
theorem OrbS.start (hn:M.Nodup) (hM: ∀x∈M,x∈halvesE p.es) (h:h0∈halvesE p.es):OrbS p M h0 [] h0:=⟨⟨2*p.es.length+1,by omega,by simp,by simp⟩,by simpa using hn,by simpa using hM,h⟩
theorem OrbS.step (r:RightP p) (s:OrbS p M h0 R h) (hh:h∉M++R):OrbS p M h0 (R++[h]) (nextP p h):=by
 obtain⟨⟨m,hm,e,hl⟩,nd,mem,hmm⟩:=s
 have nd2:(M++(R++[h])).Nodup:=by
  rw[←List.append_assoc,List.nodup_append]
  exact⟨nd,by simp,fun a ha b hb e2=>by simp at hb;subst hb;subst e2;exact hh ha⟩
 have mem2: ∀x∈M++(R++[h]),x∈halvesE p.es:=fun x hx=>by
  rw[←List.append_assoc] at hx
  rcases List.mem_append.1 hx with hx|hx
  ·exact mem x hx
  ·simp at hx;subst hx;exact hmm
 have hle:=nodup_len nd2 mem2
 rw[halves_len] at hle
 simp at hle
 obtain⟨k,rfl⟩: ∃k,m=k+1:=⟨m - 1,by omega⟩
 refine⟨⟨k,by omega, ?_,by simp;omega⟩,nd2,mem2,r.next_half hmm⟩
 rw[←e]
 conv=>rhs;unfold orbF
 rw[if_neg hh,List.append_assoc,List.append_assoc]
 rfl
theorem OrbS.stop (s:OrbS p M h0 R h) (hh:h∈M++R):R=orbF (nextP p) (2*p.es.length+1) M h0:=by
 obtain⟨⟨m,hm,e,hl⟩, -⟩:=s
 obtain⟨k,rfl⟩: ∃k,m=k+1:=⟨m - 1,by omega⟩
 rw[←e]
 unfold orbF
 rw[if_pos hh,List.append_nil]
theorem OrbS.len (s:OrbS p M h0 R h):M.length+R.length≤2*p.es.length:=by
 have:=nodup_len s.nd s.mem
 rw[halves_len] at this
 simpa using this
end
structure RngS (p:PL) (k:Nat) (L:List (List Hf)) (M:List Hf):Prop where
 go:L++ringsF (nextP p) (2*p.es.length+1) ((halvesE p.es).drop k) M=ringsP p
 nd:M.Nodup
 mem: ∀x∈M,x∈halvesE p.es
section
variable {p:PL} {k:Nat} {L:List (List Hf)} {M:List Hf}
theorem RngS.start (p:PL):RngS p 0 [] []:=⟨by simp[ringsP],List.nodup_nil,by simp⟩
theorem RngS.step (s:RngS p k L M) {h0 h:Hf} {R:List Hf} (hk:(halvesE p.es)[k]? =some h0) (o:OrbS p M h0 R h) (hh:h∈M++R):RngS p (k+1) (if R=[] then L else L++[R]) (M++R):=by
 have e:=o.stop hh
 refine⟨?_,o.nd,o.mem⟩
 rw[←s.go,List.drop_eq_getElem_cons (List.getElem?_eq_some_iff.1 hk).1,(List.getElem?_eq_some_iff.1 hk).2,rings_step (by omega), ←e]
theorem len_flat: ∀ {l:List (List Hf)},(∀x∈l,x≠ [])→l.length≤l.flatten.length
 | [],_=>by simp
 |x::l,h=>by
  have h1:=len_flat (l:=l) (fun y hy=>h y (by simp[hy]))
  have h2:=List.length_pos_iff.2 (h x (by simp))
  simp only[List.length_cons,List.flatten_cons,List.length_append]
  omega
theorem RightP.rings_few (r:RightP p):(ringsP p).length≤2*p.es.length:=by
 obtain⟨a,b,c⟩:=r.rings
 have h1:=len_flat (l:=ringsP p) (fun x hx=>by obtain⟨h,m,rr⟩:=a x hx;exact rr.ne)
 have h2:=nodup_len b (fun y hy=>(c y).1 hy)
 rw[halves_len] at h2
 omega
theorem RngS.len (s:RngS p k L M) (r:RightP p):L.length≤2*p.es.length:=by
 have:=congrArg List.length s.go
 rw[List.length_append] at this
 have:=r.rings_few
 omega
theorem RngS.done (s:RngS p (2*p.es.length) L M):L=ringsP p:=by
 rw[←s.go,List.drop_of_length_le (by rw[halves_len];omega)]
 simp[ringsF]
theorem halves_at: ∀ {es:List Ed} {j:Nat} {e:Ed},es[j]? =some e→(halvesE es)[2*j]? =some ⟨e.id,false⟩∧(halvesE es)[2*j+1]? =some ⟨e.id,true⟩
 | [],j,e,h=>by simp at h
 |u::l,0,e,h=>by simp at h;subst h;exact⟨rfl,rfl⟩
 |u::l,j+1,e,h=>by
  have:=halves_at (es:=l) (j:=j) (e:=e) (by simpa using h)
  show([⟨u.id,false⟩,⟨u.id,true⟩]++halvesE l:List Hf)[2*(j+1)]? =_∧([⟨u.id,false⟩,⟨u.id,true⟩]++halvesE l:List Hf)[2*(j+1)+1]? =_
  rw[List.getElem?_append_right (by simp;omega),List.getElem?_append_right (by simp;omega)]
  simp only[List.length_cons,List.length_nil]
  rw[show 2*(j+1) - (0+1+1)=2*j by omega,show 2*(j+1)+1 - (0+1+1)=2*j+1 by omega]
  exact this
end
end Go.Proofs.Ythopjhifepijiaa
