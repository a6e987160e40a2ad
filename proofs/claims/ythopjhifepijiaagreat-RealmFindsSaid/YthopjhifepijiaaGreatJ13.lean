/- Lemmas on the way to the statement. -/
import Derived.Test.YthopjhifepijiaaGreatJ12
set_option linter.unusedSimpArgs false
set_option linter.unusedVariables false
namespace Go.Proofs.YthopjhifepijiaaGreat
open Go.RowKit Go.Joins
theorem VsIn.row {w:World} {B:Nat} {a:Option Addr} {n:Nat} {l:List Vx} (h:VsIn w B a n l) (hn:0<n): ∃b off,a=some ⟨b,off,none⟩∧b<B∧ ∀w',Below B w w'→ ∀i v,l[i]? =some v→
  w'.cell? ⟨b,off+i*3,none⟩=some (.int .i64 v.id)∧w'.cell? ⟨b,off+i*3+1,none⟩=some (.int .i64 v.at_.x)∧w'.cell? ⟨b,off+i*3+1+1,none⟩=some (.int .i64 v.at_.y):=by
 obtain⟨h1,h2|⟨b,off,ha,hlt,hc⟩⟩:=h
 ·omega
 ·exact⟨b,off,ha,hlt,fun w' hb i v hv=>⟨(hb.cell (p:=⟨b,_,none⟩) hlt).trans (hc i v hv).1,(hb.cell (p:=⟨b,_,none⟩) hlt).trans (hc i v hv).2.1,(hb.cell (p:=⟨b,_,none⟩) hlt).trans (hc i v hv).2.2⟩⟩
theorem EsIn.row {w:World} {B:Nat} {a:Option Addr} {n:Nat} {l:List Ed} (h:EsIn w B a n l) (hn:0<n): ∃b off,a=some ⟨b,off,none⟩∧b<B∧ ∀w',Below B w w'→ ∀i v,l[i]? =some v→
  w'.cell? ⟨b,off+i*3,none⟩=some (.int .i64 v.id)∧w'.cell? ⟨b,off+i*3+1,none⟩=some (.int .i64 v.a)∧w'.cell? ⟨b,off+i*3+1+1,none⟩=some (.int .i64 v.b):=by
 obtain⟨h1,h2|⟨b,off,ha,hlt,hc⟩⟩:=h
 ·omega
 ·exact⟨b,off,ha,hlt,fun w' hb i v hv=>⟨(hb.cell (p:=⟨b,_,none⟩) hlt).trans (hc i v hv).1,(hb.cell (p:=⟨b,_,none⟩) hlt).trans (hc i v hv).2.1,(hb.cell (p:=⟨b,_,none⟩) hlt).trans (hc i v hv).2.2⟩⟩
theorem pid_suc {vs:List Vx} {m:Nat} {u:Vx} (h:vs[m]? =some u):pid vs (m+1)=u.id:=by
 show((vs[m]?).map (·.id)).getD 0=u.id
 rw[h];rfl
theorem eid_suc {es:List Ed} {m:Nat} {u:Ed} (h:es[m]? =some u):eid es (m+1)=u.id:=by
 show((es[m]?).map (·.id)).getD 0=u.id
 rw[h];rfl
theorem plI_cases (vs:List Vx) (id:Int):(hasV vs id=true∧ ¬plI vs id<0)∨(hasV vs id=false∧plI vs id<0):=by
 unfold plI
 cases hasV vs id
 ·exact .inr ⟨rfl,by simp⟩
 ·exact .inl ⟨rfl,by simp⟩
set_option maxRecDepth 100000 in
set_option maxHeartbeats 16000000 in
theorem r15right_any {w:World} {B vn vc en ec:Nat} {va ea:Option Addr} {p:PL} (hv:VsIn w B va vn p.vs) (he:EsIn w B ea en p.es) (hB:B≤w.heap.size) (hec:en≤ec):
  Calls Tryz.prog 10 #[.agg #[.slice va vn vc, .slice ea en ec]] w fun e w'=>e= .returned (.bool (rightR p))∧Below w.heap.size w w':=by
 have HL:=Lib.hid hv.1
 have HM:=Lib.hid he.1
 by_cases l1:512<vn
 ·rw[size_no (.inl (by rw[←hv.1];exact l1))]
  clear hv he
  go_enter Tryz.func10,Tryz.ntmps10
  go_wp2_with fail
  go_ret
  exact⟨rfl,below_alloc (Below.refl _ _)⟩
 by_cases l2:1024<en
 ·rw[size_no (.inr (by rw[←he.1];exact l2))]
  clear hv he
  go_enter Tryz.func10,Tryz.ntmps10
  go_wp2_with fail
  go_ret
  exact⟨rfl,below_alloc (Below.refl _ _)⟩
 have HV:=Lib.hid hv
 have HE:=Lib.hid he
 have HIN:=fun(q:Pt) W=>Lib.hid (r5in_any q W)
 clear hv he
 go_enter Tryz.func10,Tryz.ntmps10
 go_wp2_with fail
 first|refine wp_name (fun W hW=> ?_)|refine calls_name (fun W hW=> ?_)
 have HW:Hid (Below w.heap.size w W):=Lib.hid (by rw[←hW];repeat (first|exact Below.refl _ _|refine below_alloc ?_))
 have HWs:Hid (W.heap.size=w.heap.size+1):=Lib.hid (by rw[←hW];simp)
 have HBW:Hid (W.heap.size≤W.heap.size):=Lib.hid (by have:=HWs.out;omega)
 have HC:=fun(W1:World) (hb:Below (W.heap.size) W W1)=>Lib.hid (show W1.cell? ⟨w.heap.size,0,none⟩=some (.slice va vn vc)∧W1.cell? ⟨w.heap.size,1,none⟩=some (.slice ea en ec) from by have hs:=HWs.out;refine⟨?_, ?_⟩<;>(refine(hb.cell (by dsimp only;omega)).trans ?_;rw[←hW];clear hW;go_simp))
 have HB:=Lib.hid (Below.refl (W.heap.size) W)
 clear hW
 have HZ:=fun(W1:World) (hb:W.heap.size≤W1.heap.size)=>Lib.hid (show w.heap.size<W1.heap.size from by have:=HWs.out;omega)
 obtain⟨qx0,qx1⟩:=(HC _ HB.out).out
 have rx0:=(HZ _ HB.out.size).out
 go_wp2_with fail
 clear qx0 qx1 rx0
 go_loopw [3] (fun v wr=> ∃k:Nat,k≤vn∧v= .int .i64 k∧(∀j u,j<k→p.vs[j]? =some u→VOk p.vs j u)∧Below W.heap.size W wr) (fun v _=>vn - (intOf v).toNat)
 case atStart=>exact⟨0,Nat.zero_le _,rfl,fun j u hj=>absurd hj (by omega),HB.out⟩
 case round=>
  clear HB
  obtain⟨k,hk,rfl,hall,hb⟩:=hrel
  obtain⟨wq,rfl⟩: ∃x:World,x=wr:=⟨_,rfl⟩
  have HB:=Lib.hid hb
  have HA:=Lib.hid hall
  clear hb hall
  obtain⟨qx0,qx1⟩:=(HC _ HB.out).out
  have rx0:=(HZ _ HB.out.size).out
  have HX:=Lib.hid (HW.out.trans (HB.out.mono HW.out.size))
  by_cases hlt:k<vn
  ·skip
   obtain⟨vb,off,rfl,hvb,hcell⟩:=HV.out.row (by omega)
   have HCV:=fun(W1:World) (hb:Below w.heap.size w W1) (i:Nat) (u:Vx) (hi:p.vs[i]? =some u)=>Lib.hid (hcell W1 (hb.mono hB) i u hi)
   clear hcell
   obtain⟨v,hv⟩: ∃v,p.vs[k]? =some v:=⟨_,List.getElem?_eq_getElem (by have:=HL.out;omega)⟩
   have HVK:=Lib.hid hv
   clear hv
   obtain⟨e0,e1,e2⟩:=(HCV _ HX.out k v HVK.out).out
   go_wp2_with fail
   first|refine wp_name (fun W2 hW2=> ?_)|refine calls_name (fun W2 hW2=> ?_)
   have HW2:Hid (Below wq.heap.size wq W2):=Lib.hid (by rw[←hW2];repeat (first|exact Below.refl _ _|refine below_alloc ?_))
   have HWs2:Hid (W2.heap.size=wq.heap.size+1):=Lib.hid (by rw[←hW2];simp)
   have HBW2:Hid (W2.heap.size≤W2.heap.size):=Lib.hid (by have:=HWs2.out;omega)
   have HC2:=fun(W1:World) (hb:Below (W2.heap.size) W2 W1)=>Lib.hid (show W1.cell? ⟨w.heap.size,0,none⟩=some (.slice (some ⟨vb,off,none⟩) vn vc)∧W1.cell? ⟨w.heap.size,1,none⟩=some (.slice ea en ec)∧W1.cell? ⟨wq.heap.size,0,none⟩=some (.int .i64 v.id)∧W1.cell? ⟨wq.heap.size,1,none⟩=some (.int .i64 v.at_.x)∧W1.cell? ⟨wq.heap.size,2,none⟩=some (.int .i64 v.at_.y) from by have ho:=(HC W1 (in_of HB.out HW2.out hb (Nat.le_trans HBW.out HB.out.size) (by have h1:=HBW.out;have h2:=HB.out.size;have h3:=HW2.out.size;have h4:=HWs2.out;omega))).out;have hs:=HWs2.out;have z1:=HWs.out;have z2:=HB.out.size;refine⟨ho.1,ho.2, ?_, ?_, ?_⟩<;>(refine(hb.cell (by dsimp only;omega)).trans ?_;rw[←hW2];clear hW2;go_simp))
   have HB2:=Lib.hid (Below.refl (W2.heap.size) W2)
   clear hW2
   have HZ2:=fun(W1:World) (hb:W2.heap.size≤W1.heap.size)=>Lib.hid (show w.heap.size<W1.heap.size∧wq.heap.size<W1.heap.size from by have o0:=(HZ _ HB.out.size).out;have h3:=HW2.out.size;have:=HWs2.out;refine⟨?_, ?_⟩<;>omega)
   clear qx0 qx1 rx0
   obtain⟨qx0,qx1,qx2,qx3,qx4⟩:=(HC2 _ HB2.out).out
   obtain⟨rx0,rx1⟩:=(HZ2 _ HB2.out.size).out
   have HX2:=Lib.hid (below_step HW2.out HX.out)
   clear e0 e1 e2
   have HIV:=HIN v.at_
   go_upto_region 7 with fail
   go_cut [3,55] (fun kv pv wx=>kv= .int .i64 k∧pv= .bool (badV p.vs k v)∧Below W2.heap.size W2 wx)
   case first=>
    have hbd:badV p.vs k v=((decide (v.id<1)||(decide (0<k)&&decide (v.id≤pid p.vs k)))|| !inB v.at_):=rfl
    generalize inB v.at_=z at hbd HIV
    rcases Nat.eq_zero_or_pos k with hk0|hk0
    ·have hk1: ¬(0:Int)<(k:Int):=by omega
     have hk2:decide (0<k)=false:=by simp;omega
     have hk3: ¬0<k:=by omega
     rw[hk2] at hbd
     clear hk0 hk2
     by_cases c1:v.id<1
     all_goals
      first|rw[decide_eq_true c1] at hbd|rw[decide_eq_false c1] at hbd
      refine wp_name (fun c4 hc4=> ?_)
      have HB2:=bnm HB2 HBW2 hc4
      skip
      clear hc4
      have xx:=fun(x:Later c4)=>(HC2 _ (bnl HB2 HBW2 x.2)).out
      simp only[forall_and] at xx
      obtain⟨xx0,xx1,xx2,xx3,xx4⟩:=xx
      refine wp_region_later (by kernel_rfl) (by kernel_rfl) ?_
      repeat (first|go_big_quiet_step (((go_at_call 22;with_reducible refine Later.call (HIV _).out)))|quiet_step (((go_at_call 22;with_reducible refine Later.call (HIV _).out))))
      refine wpQuiet_nil ?_
      intro w4 hw4
      have hb4:=later_below hw4
      clear hw4
      have HB2:=Lib.hid (bnl HB2 HBW2 hb4)
      clear xx0 xx1 xx2 xx3 xx4
      clear qx0 qx1 qx2 qx3 qx4 rx0 rx1
      obtain⟨qx0,qx1,qx2,qx3,qx4⟩:=(HC2 _ HB2.out).out
      skip
      clear hb4
      obtain⟨rx0,rx1⟩:=(HZ2 _ HB2.out.size).out
      go_wp2_with fail
      go_meet
      exact⟨by simp,by rw[hbd];simp,HB2.out⟩
    ·obtain⟨m,rfl⟩: ∃m,k=m+1:=⟨k - 1,by omega⟩
     obtain⟨u,hu⟩: ∃u,p.vs[m]? =some u:=⟨_,List.getElem?_eq_getElem (by have:=HL.out;omega)⟩
     have HUM:=Lib.hid hu
     rw[pid_suc hu] at hbd
     clear hu
     have hm1:m<vn:=by omega
     have hm2:(0:Int)<(m:Int)+1:=by omega
     by_cases c1:v.id<1
     case' neg=>by_cases c2:v.id≤u.id
     all_goals
      first|rw[decide_eq_true c1] at hbd|rw[decide_eq_false c1,decide_eq_true c2] at hbd|rw[decide_eq_false c1,decide_eq_false c2] at hbd
      refine wp_name (fun c5 hc5=> ?_)
      have HB2:=bnm HB2 HBW2 hc5
      have y9:=fun(x:Later c5)=>(HCV x.1 (HX2.out.trans ((HB2.out.trans (x.2.mono HB2.out.size)).mono HX2.out.size)) m u HUM.out).out.1
      clear hc5
      have xx:=fun(x:Later c5)=>(HC2 _ (bnl HB2 HBW2 x.2)).out
      simp only[forall_and] at xx
      obtain⟨xx0,xx1,xx2,xx3,xx4⟩:=xx
      refine wp_region_later (by kernel_rfl) (by kernel_rfl) ?_
      repeat (first|go_big_quiet_step (((go_at_call 22;with_reducible refine Later.call (HIV _).out)))|quiet_step (((go_at_call 22;with_reducible refine Later.call (HIV _).out))))
      refine wpQuiet_nil ?_
      intro w5 hw5
      have hb5:=later_below hw5
      clear hw5
      have HB2:=Lib.hid (bnl HB2 HBW2 hb5)
      clear xx0 xx1 xx2 xx3 xx4
      clear qx0 qx1 qx2 qx3 qx4 rx0 rx1
      obtain⟨qx0,qx1,qx2,qx3,qx4⟩:=(HC2 _ HB2.out).out
      skip
      clear hb5
      obtain⟨rx0,rx1⟩:=(HZ2 _ HB2.out.size).out
      go_wp2_with fail
      go_meet
      exact⟨by simp,by rw[hbd];simp,HB2.out⟩
   case rest=>
   obtain⟨rfl,rfl,hbx⟩:=hcut
   have HB2:=Lib.hid hbx
   clear hbx
   have HBO:=Lib.hid (HB.out.trans ((HW2.out.trans (HB2.out.mono HW2.out.size)).mono HB.out.size))
   cases hbad:badV p.vs k v
   ·have HBAD:=Lib.hid hbad
    clear hbad
    clear qx0 qx1 qx2 qx3 qx4 rx0 rx1
    obtain⟨qx0,qx1,qx2,qx3,qx4⟩:=(HC2 _ HB2.out).out
    obtain⟨rx0,rx1⟩:=(HZ2 _ HB2.out.size).out
    go_wp2_with fail
    clear qx0 qx1 qx2 qx3 qx4 rx0 rx1
    go_loopw [5] (fun z wi=> ∃j:Nat,j≤k∧z= .int .i64 j∧(∀i u,i<j→p.vs[i]? =some u→u.at_≠v.at_)∧Below W2.heap.size W2 wi) (fun z _=>k - (intOf z).toNat)
    case atStart=>exact⟨0,Nat.zero_le _,rfl,fun i u hi=>absurd hi (by omega),HB2.out⟩
    case round=>
     clear HB2 HBO
     obtain⟨j,hj,rfl,hmet,hb⟩:=hrel
     have HB2:=Lib.hid hb
     have HMT:=Lib.hid hmet
     clear hb hmet
     obtain⟨qx0,qx1,qx2,qx3,qx4⟩:=(HC2 _ HB2.out).out
     obtain⟨rx0,rx1⟩:=(HZ2 _ HB2.out.size).out
     have HX3:=Lib.hid (HX2.out.trans (HB2.out.mono HX2.out.size))
     by_cases hjk:j<k
     ·obtain⟨u,hu⟩: ∃u,p.vs[j]? =some u:=⟨_,List.getElem?_eq_getElem (by have:=HL.out;omega)⟩
      have HUJ:=Lib.hid hu
      clear hu
      have hjv:j<vn:=by omega
      cases heq:decide (u.at_=v.at_)
      ·have rq:=eq_pt_f heq
       have HEQ:=Lib.hid heq
       clear heq
       go_wp2_with fail
       refine wp_name (fun c8 hc8=> ?_)
       have HB2:=bnm HB2 HBW2 hc8
       have y8:=fun(x:Later c8)=>(HCV x.1 (HX2.out.trans ((HB2.out.trans (x.2.mono HB2.out.size)).mono HX2.out.size)) j u HUJ.out).out.2
       clear hc8
       have xx:=fun(x:Later c8)=>(HC2 _ (bnl HB2 HBW2 x.2)).out
       simp only[forall_and] at xx
       obtain⟨xx0,xx1,xx2,xx3,xx4⟩:=xx
       refine wp_region_later (by kernel_rfl) (by kernel_rfl) ?_
       repeat (first|go_big_quiet_step ((fail))|quiet_step ((fail)))
       refine wpQuiet_nil ?_
       intro w8 hw8
       have hb8:=later_below hw8
       clear hw8
       have HB2:=Lib.hid (bnl HB2 HBW2 hb8)
       clear xx0 xx1 xx2 xx3 xx4
       clear qx0 qx1 qx2 qx3 qx4 rx0 rx1
       obtain⟨qx0,qx1,qx2,qx3,qx4⟩:=(HC2 _ HB2.out).out
       skip
       clear hb8
       obtain⟨rx0,rx1⟩:=(HZ2 _ HB2.out.size).out
       go_wp2_with fail
       go_roundw
       case rel=>
        refine⟨j+1,by omega,by go_num,fun i x hi hx=> ?_,HB2.out⟩
        by_cases hij:i<j
        ·exact HMT.out i x hij hx
        ·obtain rfl:i=j:=by omega
         rw[HUJ.out] at hx
         injection hx with hx
         subst hx
         exact of_decide_eq_false HEQ.out
       case measure=>simp[intOf];omega
      ·have F:=Lib.hid (met_no HVK.out HUJ.out hjk (of_decide_eq_true heq))
       have rq:=eq_pt_t heq
       clear heq
       go_wp2_with fail
       refine wp_name (fun c9 hc9=> ?_)
       have HB2:=bnm HB2 HBW2 hc9
       have y8:=fun(x:Later c9)=>(HCV x.1 (HX2.out.trans ((HB2.out.trans (x.2.mono HB2.out.size)).mono HX2.out.size)) j u HUJ.out).out.2
       clear hc9
       have xx:=fun(x:Later c9)=>(HC2 _ (bnl HB2 HBW2 x.2)).out
       simp only[forall_and] at xx
       obtain⟨xx0,xx1,xx2,xx3,xx4⟩:=xx
       refine wp_region_later (by kernel_rfl) (by kernel_rfl) ?_
       repeat (first|go_big_quiet_step ((fail))|quiet_step ((fail)))
       refine wpQuiet_nil ?_
       intro w9 hw9
       have hb9:=later_below hw9
       clear hw9
       have HB2:=Lib.hid (bnl HB2 HBW2 hb9)
       clear xx0 xx1 xx2 xx3 xx4
       clear qx0 qx1 qx2 qx3 qx4 rx0 rx1
       obtain⟨qx0,qx1,qx2,qx3,qx4⟩:=(HC2 _ HB2.out).out
       skip
       clear hb9
       obtain⟨rx0,rx1⟩:=(HZ2 _ HB2.out.size).out
       go_wp2_with fail
       go_ret
       exact⟨by rw[F.out];rfl,HX2.out.trans (HB2.out.mono HX2.out.size)⟩
     ·have HOK:=Lib.hid (badV_ok HBAD.out (fun i u hi hu=>HMT.out i u (by omega) hu))
      have HBO:=Lib.hid (HB.out.trans ((HW2.out.trans (HB2.out.mono HW2.out.size)).mono HB.out.size))
      go_wp2_with fail
      go_roundw
      case rel=>
       refine⟨k+1,by omega,by go_num,fun i x hi hx=> ?_,HBO.out⟩
       by_cases hik:i<k
       ·exact HA.out i x hik hx
       ·obtain rfl:i=k:=by omega
        rw[HVK.out] at hx
        injection hx with hx
        subst hx
        exact HOK.out
      case measure=>simp[intOf];omega
   ·have F:=Lib.hid (badV_no HVK.out hbad)
    clear hbad
    clear qx0 qx1 qx2 qx3 qx4 rx0 rx1
    obtain⟨qx0,qx1,qx2,qx3,qx4⟩:=(HC2 _ HB2.out).out
    obtain⟨rx0,rx1⟩:=(HZ2 _ HB2.out.size).out
    go_wp2_with fail
    go_ret
    exact⟨by rw[F.out];rfl,HW.out.trans (HBO.out.mono HW.out.size)⟩
  ·have HVO:=Lib.hid (fun i v (h:p.vs[i]? =some v)=>HA.out i v (by have:=(List.getElem?_eq_some_iff.1 h).1;have:=HL.out;omega) h)
   clear HA
   have HVX:=fun(W1:World) (hb:Below w.heap.size w W1) (id:Int) (ea1:Option Addr)=>Lib.hid (r15vertex_any (w:=W1) (vc:=vc) (HV.out.below (hb.mono hB)) (Nat.le_trans hB hb.size) (by omega) (.slice ea1 en ec) ⟨_,_,_,rfl⟩ id)
   obtain⟨wo,rfl⟩: ∃x:World,x=wq:=⟨_,rfl⟩
   go_wp2_with fail
   clear qx0 qx1 rx0
   go_loopw [6] (fun v wr=> ∃n:Nat,n≤en∧v= .int .i64 n∧(∀j f,j<n→p.es[j]? =some f→ ∃A B,EOk p.vs p.es j f A B)∧Below W.heap.size W wr) (fun v _=>en - (intOf v).toNat)
   case atStart=>exact⟨0,Nat.zero_le _,rfl,fun j u hj=>absurd hj (by omega),HB.out⟩
   case round=>
    clear HB HX
    obtain⟨n,hn,rfl,hall,hb⟩:=hrel
    obtain⟨wq,rfl⟩: ∃x:World,x=wr:=⟨_,rfl⟩
    have HB:=Lib.hid hb
    have HA:=Lib.hid hall
    clear hb hall
    obtain⟨qx0,qx1⟩:=(HC _ HB.out).out
    have rx0:=(HZ _ HB.out.size).out
    have HX:=Lib.hid (HW.out.trans (HB.out.mono HW.out.size))
    by_cases hln:n<en
    ·obtain⟨eb,eoff,rfl,heb,hcell⟩:=HE.out.row (by omega)
     have HCE:=fun(W1:World) (hb:Below w.heap.size w W1) (i:Nat) (u:Ed) (hi:p.es[i]? =some u)=>Lib.hid (hcell W1 (hb.mono hB) i u hi)
     clear hcell
     obtain⟨e,he⟩: ∃e,p.es[n]? =some e:=⟨_,List.getElem?_eq_getElem (by have:=HM.out;omega)⟩
     have HEK:=Lib.hid he
     clear he
     obtain⟨e0,e1,e2⟩:=(HCE _ HX.out n e HEK.out).out
     go_wp2_with fail
     first|refine wp_name (fun W2 hW2=> ?_)|refine calls_name (fun W2 hW2=> ?_)
     have HW2:Hid (Below wq.heap.size wq W2):=Lib.hid (by rw[←hW2];repeat (first|exact Below.refl _ _|refine below_alloc ?_))
     have HWs2:Hid (W2.heap.size=wq.heap.size+1):=Lib.hid (by rw[←hW2];simp)
     have HBW2:Hid (W2.heap.size≤W2.heap.size):=Lib.hid (by have:=HWs2.out;omega)
     have HC2:=fun(W1:World) (hb:Below (W2.heap.size) W2 W1)=>Lib.hid (show W1.cell? ⟨w.heap.size,0,none⟩=some (.slice va vn vc)∧W1.cell? ⟨w.heap.size,1,none⟩=some (.slice (some ⟨eb,eoff,none⟩) en ec)∧W1.cell? ⟨wq.heap.size,0,none⟩=some (.int .i64 e.id)∧W1.cell? ⟨wq.heap.size,1,none⟩=some (.int .i64 e.a)∧W1.cell? ⟨wq.heap.size,2,none⟩=some (.int .i64 e.b) from by have ho:=(HC W1 (in_of HB.out HW2.out hb (Nat.le_trans HBW.out HB.out.size) (by have h1:=HBW.out;have h2:=HB.out.size;have h3:=HW2.out.size;have h4:=HWs2.out;omega))).out;have hs:=HWs2.out;have z1:=HWs.out;have z2:=HB.out.size;refine⟨ho.1,ho.2, ?_, ?_, ?_⟩<;>(refine(hb.cell (by dsimp only;omega)).trans ?_;rw[←hW2];clear hW2;go_simp))
     have HB2:=Lib.hid (Below.refl (W2.heap.size) W2)
     clear hW2
     have HZ2:=fun(W1:World) (hb:W2.heap.size≤W1.heap.size)=>Lib.hid (show w.heap.size<W1.heap.size∧wq.heap.size<W1.heap.size from by have o0:=(HZ _ HB.out.size).out;have h3:=HW2.out.size;have:=HWs2.out;refine⟨?_, ?_⟩<;>omega)
     clear qx0 qx1 rx0
     obtain⟨qx0,qx1,qx2,qx3,qx4⟩:=(HC2 _ HB2.out).out
     obtain⟨rx0,rx1⟩:=(HZ2 _ HB2.out.size).out
     have HX2:=Lib.hid (below_step HW2.out HX.out)
     clear e0 e1 e2
     have HVA:=fun(W1:World) (hb:Below w.heap.size w W1)=>HVX W1 hb e.a (some ⟨eb,eoff,none⟩)
     have HVB:=fun(W1:World) (hb:Below w.heap.size w W1)=>HVX W1 hb e.b (some ⟨eb,eoff,none⟩)
     go_upto_region 18 with fail
     go_cut [6,121] (fun kv pv wx=>kv= .int .i64 n∧pv= .bool (badE p.vs p.es n e)∧Below W2.heap.size W2 wx)
     case first=>
      have hbd:badE p.vs p.es n e=((((decide (e.id<1)||(decide (0<n)&&decide (e.id≤eid p.es n)))||decide (e.a=e.b))|| !hasV p.vs e.a)|| !hasV p.vs e.b):=rfl
      have hxa:=plI_cases p.vs e.a
      have hxb:=plI_cases p.vs e.b
      generalize plI p.vs e.a=xa at HVA hxa
      generalize plI p.vs e.b=xb at HVB hxb
      rcases Nat.eq_zero_or_pos n with hk0|hk0
      ·have hk1: ¬(0:Int)<(n:Int):=by omega
       have hk2:decide (0<n)=false:=by simp;omega
       have hk3: ¬0<n:=by omega
       rw[hk2] at hbd
       clear hk0 hk2
       by_cases c1:e.id<1
       case' pos=>rw[decide_eq_true c1] at hbd
       case' neg=>
        rw[decide_eq_false c1] at hbd
        cases c3:(e.a==e.b)
        case' true=>
         have c3':decide (e.a=e.b)=true:=by simpa using c3
         rw[c3'] at hbd
         clear c3' hxa hxb
        case' false=>
         have c3':decide (e.a=e.b)=false:=by simpa using c3
         rw[c3'] at hbd
         clear c3'
         rcases hxa with ⟨h1,h2⟩|⟨h1,h2⟩
         case' inr=>
          rw[h1] at hbd
          clear h1 hxb
         case' inl=>
          rw[h1] at hbd
          clear h1
          rcases hxb with ⟨h3,h4⟩|⟨h3,h4⟩
          all_goals
           rw[h3] at hbd
           clear h3
       all_goals
        refine wp_name (fun c13 hc13=> ?_)
        have HB2:=bnm HB2 HBW2 hc13
        have YB:=fun(x:Later c13)=>HX2.out.trans ((HB2.out.trans (x.2.mono HB2.out.size)).mono HX2.out.size);have HVAL:=fun(x:Later c13)=>HVA x.1 (YB x);have HVBL:=fun(x:Later c13)=>HVB x.1 (YB x);clear YB
        clear hc13
        have xx:=fun(x:Later c13)=>(HC2 _ (bnl HB2 HBW2 x.2)).out
        simp only[forall_and] at xx
        obtain⟨xx0,xx1,xx2,xx3,xx4⟩:=xx
        refine wp_region_later (by kernel_rfl) (by kernel_rfl) ?_
        repeat (first|go_big_quiet_step (((first|(go_at_call 23;with_reducible refine Later.call (HVAL _).out)|(go_at_call 23;with_reducible refine Later.call (HVBL _).out))))|quiet_step (((first|(go_at_call 23;with_reducible refine Later.call (HVAL _).out)|(go_at_call 23;with_reducible refine Later.call (HVBL _).out)))))
        refine wpQuiet_nil ?_
        intro w13 hw13
        have hb13:=later_below hw13
        clear hw13
        have HB2:=Lib.hid (bnl HB2 HBW2 hb13)
        clear xx0 xx1 xx2 xx3 xx4
        clear qx0 qx1 qx2 qx3 qx4 rx0 rx1
        obtain⟨qx0,qx1,qx2,qx3,qx4⟩:=(HC2 _ HB2.out).out
        skip
        clear hb13
        obtain⟨rx0,rx1⟩:=(HZ2 _ HB2.out.size).out
        go_wp2_with fail
        go_meet
        exact⟨by simp,by rw[hbd];simp,HB2.out⟩
      ·obtain⟨m,rfl⟩: ∃m,n=m+1:=⟨n - 1,by omega⟩
       obtain⟨u,hu⟩: ∃u,p.es[m]? =some u:=⟨_,List.getElem?_eq_getElem (by have:=HM.out;omega)⟩
       have HUM:=Lib.hid hu
       rw[eid_suc hu] at hbd
       clear hu
       have hm1:m<en:=by omega
       have hm2:(0:Int)<(m:Int)+1:=by omega
       by_cases c1:e.id<1
       case' pos=>rw[decide_eq_true c1] at hbd
       case' neg=>
        rw[decide_eq_false c1] at hbd
        by_cases c2:e.id≤u.id
        case' pos=>rw[decide_eq_true c2] at hbd
        case' neg=>
         rw[decide_eq_false c2] at hbd
         cases c3:(e.a==e.b)
         case' true=>
          have c3':decide (e.a=e.b)=true:=by simpa using c3
          rw[c3'] at hbd
          clear c3' hxa hxb
         case' false=>
          have c3':decide (e.a=e.b)=false:=by simpa using c3
          rw[c3'] at hbd
          clear c3'
          rcases hxa with ⟨h1,h2⟩|⟨h1,h2⟩
          case' inr=>
           rw[h1] at hbd
           clear h1 hxb
          case' inl=>
           rw[h1] at hbd
           clear h1
           rcases hxb with ⟨h3,h4⟩|⟨h3,h4⟩
           all_goals
            rw[h3] at hbd
            clear h3
       all_goals
        refine wp_name (fun c14 hc14=> ?_)
        have HB2:=bnm HB2 HBW2 hc14
        have YB:=fun(x:Later c14)=>HX2.out.trans ((HB2.out.trans (x.2.mono HB2.out.size)).mono HX2.out.size);have HVAL:=fun(x:Later c14)=>HVA x.1 (YB x);have HVBL:=fun(x:Later c14)=>HVB x.1 (YB x);have y9:=fun(x:Later c14)=>(HCE x.1 (YB x) m u HUM.out).out.1;clear YB
        clear hc14
        have xx:=fun(x:Later c14)=>(HC2 _ (bnl HB2 HBW2 x.2)).out
        simp only[forall_and] at xx
        obtain⟨xx0,xx1,xx2,xx3,xx4⟩:=xx
        refine wp_region_later (by kernel_rfl) (by kernel_rfl) ?_
        repeat (first|go_big_quiet_step (((first|(go_at_call 23;with_reducible refine Later.call (HVAL _).out)|(go_at_call 23;with_reducible refine Later.call (HVBL _).out))))|quiet_step (((first|(go_at_call 23;with_reducible refine Later.call (HVAL _).out)|(go_at_call 23;with_reducible refine Later.call (HVBL _).out)))))
        refine wpQuiet_nil ?_
        intro w14 hw14
        have hb14:=later_below hw14
        clear hw14
        have HB2:=Lib.hid (bnl HB2 HBW2 hb14)
        clear xx0 xx1 xx2 xx3 xx4
        clear qx0 qx1 qx2 qx3 qx4 rx0 rx1
        obtain⟨qx0,qx1,qx2,qx3,qx4⟩:=(HC2 _ HB2.out).out
        skip
        clear hb14
        obtain⟨rx0,rx1⟩:=(HZ2 _ HB2.out.size).out
        go_wp2_with fail
        go_meet
        exact⟨by simp,by rw[hbd];simp,HB2.out⟩
     case rest=>
     obtain⟨rfl,rfl,hbx⟩:=hcut
     have HB2:=Lib.hid hbx
     clear hbx
     have HBO:=Lib.hid (HB.out.trans ((HW2.out.trans (HB2.out.mono HW2.out.size)).mono HB.out.size))
     cases hbad:badE p.vs p.es n e
     ·have HBAD:=Lib.hid hbad
      have hE:=badE_has hbad
      have hnc:n≤ec:=by omega
      have HEI:=Lib.hid (EdIn.of HVO.out hE.1 hE.2.1 hE.2.2)
      clear hbad hE
      clear qx0 qx1 qx2 qx3 qx4 rx0 rx1
      obtain⟨qx0,qx1,qx2,qx3,qx4⟩:=(HC2 _ HB2.out).out
      obtain⟨rx0,rx1⟩:=(HZ2 _ HB2.out.size).out
      go_wp2_with fail
      clear qx0 qx1 qx2 qx3 qx4 rx0 rx1
      have HY:=fun(w':World) (t:Below wc.heap.size wc w')=>Lib.hid (show w'.cell? ⟨w.heap.size,0,none⟩=some (.slice va vn vc)∧w'.cell? ⟨w.heap.size,1,none⟩=some (.slice (some ⟨eb,eoff,none⟩) en ec) from(HC _ (HBO.out.trans (t.mono HBO.out.size))).out)
      have HS0:=Lib.hid (Below.refl wc.heap.size wc).drew
      refine wp_region_noPanic ?_
      refine wp_region_par3 8 8 (by kernel_rfl) (by kernel_rfl) (by simp) (by omega) (by kernel_rfl) (by kernel_rfl) (fun w':World=>Below wc.heap.size wc w') ?_
      refine par3_move (v:= ?_) 0 (by simp only[zga,zgb,zgc];rfl) (by kernel_rfl) (by rfl) ?_ (fun _ _ _ h=>h) ?_
      rotate_left
      ·(intro w9;go_simp;try with_reducible rfl)
      simp only[Act.put,zpa,zpb,zpc]
      refine par3_read (v:= ?_) 1 (by simp only[zga,zgb,zgc];rfl) (by kernel_rfl) (by rfl) HS0.out ?_ (fun _ _ _ h=>h) ?_
      rotate_left
      ·(intro w9 hSw;obtain⟨y0,y1⟩:=(HY w9 hSw).out;clear hSw;go_simp;try with_reducible rfl)
      simp only[Act.put,zpa,zpb,zpc]
      refine par3_move (v:= ?_) 2 (by simp only[zga,zgb,zgc];rfl) (by kernel_rfl) (by rfl) ?_ (fun _ _ _ h=>h) ?_
      rotate_left
      ·(intro w9;go_simp;try with_reducible rfl)
      simp only[Act.put,zpa,zpb,zpc]
      refine par3_read (v:= ?_) 3 (by simp only[zga,zgb,zgc];rfl) (by kernel_rfl) (by rfl) HS0.out ?_ (fun _ _ _ h=>h) ?_
      rotate_left
      ·(intro w9 hSw;obtain⟨y0,y1⟩:=(HY w9 hSw).out;clear hSw;go_simp;try with_reducible rfl)
      simp only[Act.put,zpa,zpb,zpc]
      refine par3_move (v:= ?_) 4 (by simp only[zga,zgb,zgc];rfl) (by kernel_rfl) (by rfl) ?_ (fun _ _ _ h=>h) ?_
      rotate_left
      ·(intro w9;go_simp;try with_reducible rfl)
      simp only[Act.put,zpa,zpb,zpc]
      refine par3_move (v:= ?_) 5 (by simp only[zga,zgb,zgc];rfl) (by kernel_rfl) (by rfl) ?_ (fun _ _ _ h=>h) ?_
      rotate_left
      ·(intro w9;go_simp;try with_reducible rfl)
      simp only[Act.put,zpa,zpb,zpc]
      refine par3_move (v:= ?_) 6 (by simp only[zga,zgb,zgc];rfl) (by kernel_rfl) (by rfl) ?_ (fun _ _ _ h=>h) ?_
      rotate_left
      ·(intro w9;go_simp;try with_reducible rfl)
      simp only[Act.put,zpa,zpb,zpc]
      refine par3_nm (fun W8 hW8=> ?_)
      rw[←hW8] at HS0
      clear hW8
      refine par3_one 7 (by simp only[zga,zgb,zgc];rfl) (by kernel_rfl) (by rfl) ?_
      refine owp_val (v:= ?_) (w1:= ?_) ?_ ?_
      rotate_left 2
      ·(go_simp;constructor<;>rfl)
      refine⟨fun s _=>s.alloc s.size _, ?_⟩
      simp only[Act.put,zpa,zpb,zpc]
      refine par3_tail _ (by simp only[List.drop_succ_cons,List.drop_zero];rfl) (by kernel_rfl) ?_
      go_wp2_with fail
      refine NoPanic.normal ?_
      go_upto_region 21 with fail
      have HB2:=Lib.hid (HB2.out.trans (HS0.out.mono HB2.out.size))
      first|refine wp_name (fun W3 hW3=> ?_)|refine calls_name (fun W3 hW3=> ?_)
      have HW3:Hid (Below W8.heap.size W8 W3):=Lib.hid (by rw[←hW3];repeat (first|exact Below.refl _ _|refine below_alloc ?_))
      have HWs3:Hid (W3.heap.size=W8.heap.size+1):=Lib.hid (by rw[←hW3];simp)
      have HBW3:Hid (W3.heap.size≤W3.heap.size):=Lib.hid (by have:=HWs3.out;omega)
      have HC3:=fun(W1:World) (hb:Below (W3.heap.size) W3 W1)=>Lib.hid (show W1.cell? ⟨w.heap.size,0,none⟩=some (.slice va vn vc)∧W1.cell? ⟨w.heap.size,1,none⟩=some (.slice (some ⟨eb,eoff,none⟩) en ec)∧W1.cell? ⟨wq.heap.size,0,none⟩=some (.int .i64 e.id)∧W1.cell? ⟨wq.heap.size,1,none⟩=some (.int .i64 e.a)∧W1.cell? ⟨wq.heap.size,2,none⟩=some (.int .i64 e.b)∧W1.cell? ⟨W8.heap.size,0,none⟩=some (.slice va vn vc)∧W1.cell? ⟨W8.heap.size,1,none⟩=some (.slice (some ⟨eb,eoff,none⟩) n ec) from by have ho:=(HC2 W1 (in_of HB2.out HW3.out hb (Nat.le_trans HBW2.out HB2.out.size) (by have h1:=HBW2.out;have h2:=HB2.out.size;have h3:=HW3.out.size;have h4:=HWs3.out;omega))).out;have hs:=HWs3.out;have z1:=HWs2.out;have z2:=HB2.out.size;refine⟨ho.1,ho.2.1,ho.2.2.1,ho.2.2.2.1,ho.2.2.2.2, ?_, ?_⟩<;>(refine(hb.cell (by dsimp only;omega)).trans ?_;rw[←hW3];clear hW3;go_simp))
      have HB3:=Lib.hid (Below.refl (W3.heap.size) W3)
      clear hW3
      have HZ3:=fun(W1:World) (hb:W3.heap.size≤W1.heap.size)=>Lib.hid (show w.heap.size<W1.heap.size∧wq.heap.size<W1.heap.size∧W8.heap.size<W1.heap.size from by obtain⟨o0,o1⟩:=(HZ2 _ HB2.out.size).out;have h3:=HW3.out.size;have:=HWs3.out;refine⟨?_, ?_, ?_⟩<;>omega)
      obtain⟨qx0,qx1,qx2,qx3,qx4,qx5,qx6⟩:=(HC3 _ HB3.out).out
      obtain⟨rx0,rx1,rx2⟩:=(HZ3 _ HB3.out.size).out
      have HX3:=Lib.hid (below_step HW3.out (HX2.out.trans (HB2.out.mono HX2.out.size)))
      clear HY HS0 HBO
      have HLK:=fun(W1:World) (hb:Below w.heap.size w W1)=>Lib.hid (r15links_any (w:=W1) (ec:=ec) ((HE.out.take hn).below (hb.mono hB)) (Nat.le_trans hB hb.size) (by omega) (.slice va vn vc) ⟨_,_,_,rfl⟩ e.a e.b)
      have HAA:=fun(W1:World) (hb:Below w.heap.size w W1)=>Lib.hid (r15at_any (w:=W1) (vc:=vc) (HV.out.below (hb.mono hB)) (Nat.le_trans hB hb.size) (by omega) (.slice (some ⟨eb,eoff,none⟩) en ec) ⟨_,_,_,rfl⟩ e.a HEI.out.va)
      have HAB:=fun(W1:World) (hb:Below w.heap.size w W1)=>Lib.hid (r15at_any (w:=W1) (vc:=vc) (HV.out.below (hb.mono hB)) (Nat.le_trans hB hb.size) (by omega) (.slice (some ⟨eb,eoff,none⟩) en ec) ⟨_,_,_,rfl⟩ e.b HEI.out.vb)
      have HON:=fun(W1:World) (hb:Below w.heap.size w W1)=>Lib.hid (r15on_any (w:=W1) (vc:=vc) (HV.out.below (hb.mono hB)) (Nat.le_trans hB hb.size) (by omega) (.slice (some ⟨eb,eoff,none⟩) en ec) ⟨_,_,_,rfl⟩ (findV p.vs e.a).at_ (findV p.vs e.b).at_ (fun v hv=>by
       obtain⟨i,hi⟩:=List.mem_iff_getElem?.1 hv
       exact(HVO.out i v hi).inr) HEI.out.ia HEI.out.ib)
      have HME:=fun(W1:World) (hb:Below w.heap.size w W1)=>Lib.hid (r15meets_any (w:=W1) (vc:=vc) (ec:=ec) (HV.out.below (hb.mono hB)) (HE.out.below (hb.mono hB)) (Nat.le_trans hB hb.size) (by omega) (by omega) (findV p.vs e.a).at_ (findV p.vs e.b).at_ HEI.out.ia HEI.out.ib HEI.out.ne (n:=n) hn (fun i f hi hf=>by
       obtain⟨A,B,ho⟩:=HA.out i f hi hf
       exact EdIn.of HVO.out (hasV_iff.2 ⟨A,ho.pa⟩) (hasV_iff.2 ⟨B,ho.pb⟩) ho.ab))
      go_cut [6,159] (fun kv pv wx=>kv= .int .i64 n∧pv= .bool (badW p.vs p.es n e)∧Below W3.heap.size W3 wx)
      case first=>
       have hbd:badW p.vs p.es n e=(((p.es.take n).any (linkB e.a e.b)||p.vs.any fun v=>onB v.at_ (findV p.vs e.a).at_ (findV p.vs e.b).at_)||(p.es.take n).any fun f=>meetB (findV p.vs e.a).at_ (findV p.vs e.b).at_ (findV p.vs f.a).at_ (findV p.vs f.b).at_):=rfl
       obtain⟨L,hL⟩: ∃x,x=(p.es.take n).any (linkB e.a e.b):=⟨_,rfl⟩
       obtain⟨O,hO⟩: ∃x,x=p.vs.any fun v=>onB v.at_ (findV p.vs e.a).at_ (findV p.vs e.b).at_:=⟨_,rfl⟩
       obtain⟨M,hM⟩: ∃x,x=(p.es.take n).any fun f=>meetB (findV p.vs e.a).at_ (findV p.vs e.b).at_ (findV p.vs f.a).at_ (findV p.vs f.b).at_:=⟨_,rfl⟩
       rw[←hL] at HLK hbd
       rw[←hO] at HON hbd
       rw[←hM] at HME hbd
       clear hL hO hM HEI
       generalize (findV p.vs e.a).at_=A at HAA HON HME
       generalize (findV p.vs e.b).at_=D at HAB HON HME
       cases L
       case' false=>cases O
       all_goals
        refine wp_name (fun c17 hc17=> ?_)
        have HB3:=bnm HB3 HBW3 hc17
        have YB:=fun(x:Later c17)=>HX3.out.trans ((HB3.out.trans (x.2.mono HB3.out.size)).mono HX3.out.size);have HLKL:=fun(x:Later c17)=>HLK x.1 (YB x);have HAAL:=fun(x:Later c17)=>HAA x.1 (YB x);have HABL:=fun(x:Later c17)=>HAB x.1 (YB x);have HONL:=fun(x:Later c17)=>HON x.1 (YB x);have HMEL:=fun(x:Later c17)=>HME x.1 (YB x);clear YB
        clear hc17
        have xx:=fun(x:Later c17)=>(HC3 _ (bnl HB3 HBW3 x.2)).out
        simp only[forall_and] at xx
        obtain⟨xx0,xx1,xx2,xx3,xx4,xx5,xx6⟩:=xx
        refine wp_region_later (by kernel_rfl) (by kernel_rfl) ?_
        repeat (first|go_big_quiet_step (((first|(go_at_call 24;with_reducible refine Later.call (HLKL _).out)|(go_at_call 26;with_reducible refine Later.call (HAAL _).out)|(go_at_call 26;with_reducible refine Later.call (HABL _).out)|(go_at_call 25;with_reducible refine Later.call (HONL _).out)|(go_at_call 27;with_reducible refine Later.call (HMEL _).out))))|quiet_step (((first|(go_at_call 24;with_reducible refine Later.call (HLKL _).out)|(go_at_call 26;with_reducible refine Later.call (HAAL _).out)|(go_at_call 26;with_reducible refine Later.call (HABL _).out)|(go_at_call 25;with_reducible refine Later.call (HONL _).out)|(go_at_call 27;with_reducible refine Later.call (HMEL _).out)))))
        refine wpQuiet_nil ?_
        intro w17 hw17
        have hb17:=later_below hw17
        clear hw17
        have HB3:=Lib.hid (bnl HB3 HBW3 hb17)
        clear xx0 xx1 xx2 xx3 xx4 xx5 xx6
        clear qx0 qx1 qx2 qx3 qx4 qx5 qx6 rx0 rx1 rx2
        obtain⟨qx0,qx1,qx2,qx3,qx4,qx5,qx6⟩:=(HC3 _ HB3.out).out
        skip
        clear hb17
        obtain⟨rx0,rx1,rx2⟩:=(HZ3 _ HB3.out.size).out
        go_wp2_with fail
        go_meet
        exact⟨by simp,by rw[hbd];simp,HB3.out⟩
      case rest=>
      obtain⟨rfl,rfl,hbx⟩:=hcut
      have HB3:=Lib.hid hbx
      clear hbx
      have hb3:=HW3.out.trans (HB3.out.mono HW3.out.size)
      have hb2:=HB2.out.trans (hb3.mono HB2.out.size)
      have HBO:=Lib.hid (HB.out.trans ((HW2.out.trans (hb2.mono HW2.out.size)).mono HB.out.size))
      clear hb3 hb2
      clear qx0 qx1 qx2 qx3 qx4 qx5 qx6 rx0 rx1 rx2
      obtain⟨qx0,qx1,qx2,qx3,qx4,qx5,qx6⟩:=(HC3 _ HB3.out).out
      obtain⟨rx0,rx1,rx2⟩:=(HZ3 _ HB3.out.size).out
      cases hbw:badW p.vs p.es n e
      ·have HOK:=Lib.hid (badE_ok HBAD.out hbw)
       clear hbw
       go_wp2_with fail
       go_roundw
       case rel=>
        refine⟨n+1,by omega,by go_num,fun i x hi hx=> ?_,HBO.out⟩
        by_cases hik:i<n
        ·exact HA.out i x hik hx
        ·obtain rfl:i=n:=by omega
         rw[HEK.out] at hx
         injection hx with hx
         subst hx
         exact HOK.out
       case measure=>simp[intOf];omega
      ·have F:=Lib.hid (badW_no HEK.out hbw)
       clear hbw
       go_wp2_with fail
       go_ret
       exact⟨by rw[F.out];rfl,HW.out.trans (HBO.out.mono HW.out.size)⟩
     ·have F:=Lib.hid (badE_no HEK.out hbad)
      clear hbad
      clear qx0 qx1 qx2 qx3 qx4 rx0 rx1
      obtain⟨qx0,qx1,qx2,qx3,qx4⟩:=(HC2 _ HB2.out).out
      obtain⟨rx0,rx1⟩:=(HZ2 _ HB2.out.size).out
      go_wp2_with fail
      go_ret
      exact⟨by rw[F.out];rfl,HW.out.trans (HBO.out.mono HW.out.size)⟩
    ·have F:=Lib.hid (show rightR p=true from rightR_iff.2 ⟨by have:=HL.out;omega,by have:=HM.out;omega,HVO.out,fun i x hx=>HA.out i x (by have:=(List.getElem?_eq_some_iff.1 hx).1;have:=HM.out;omega) hx⟩)
     go_wp2_with fail
     go_ret
     exact⟨by rw[F.out];rfl,HX.out⟩
end Go.Proofs.YthopjhifepijiaaGreat
namespace Go.Proofs.YthopjhifepijiaaGreat
open Go.RowKit Go.Joins
theorem eq_hf (a b:Hf) (w:World):(binOp .eql 91 (.agg #[.int .i64 a.edge, .bool a.back]) (.agg #[.int .i64 b.edge, .bool b.back])).run Tryz.prog w= .ok (.bool (decide (a=b))) w:=by
 obtain⟨ax,ay⟩:=a
 obtain⟨bx,by_⟩:=b
 simp[go_sem]
 by_cases h1:ax=bx<;>by_cases h2:ay=by_<;>simp[h1,h2]
theorem eq_hf_of {a b:Hf} {x:Bool} (h:decide (a=b)=x) (w:World):(binOp .eql 91 (.agg #[.int .i64 a.edge, .bool a.back]) (.agg #[.int .i64 b.edge, .bool b.back])).run Tryz.prog w= .ok (.bool x) w:=by
 rw[eq_hf,h]
set_option maxRecDepth 100000 in
set_option maxHeartbeats 4000000 in
theorem r16has_any {w:World} {B n c:Nat} {a:Option Addr} {R:List Hf} (hr:HsIn w B a n R) (hB:B≤w.heap.size) (hl:n≤100000) (h:Hf):
  Calls Tryz.prog 62 #[.slice a n c, .agg #[.int .i64 h.edge, .bool h.back]] w fun e w'=>e= .returned (.bool (decide (h∈R)))∧Below w.heap.size w w':=by
 have HRS:=Lib.hid hr
 have HL:=Lib.hid hr.1
 clear hr
 go_enter Tryz.func62,Tryz.ntmps62
 go_wp2_with fail
 first|refine wp_name (fun W hW=> ?_)|refine calls_name (fun W hW=> ?_)
 have HW:Hid (Below w.heap.size w W):=Lib.hid (by rw[←hW];repeat (first|exact Below.refl _ _|refine below_alloc ?_))
 have HWs:Hid (W.heap.size=w.heap.size+1):=Lib.hid (by rw[←hW];simp)
 have HBW:Hid (W.heap.size≤W.heap.size):=Lib.hid (by have:=HWs.out;omega)
 have HC:=fun(W1:World) (hb:Below (W.heap.size) W W1)=>Lib.hid (show W1.cell? ⟨w.heap.size,0,none⟩=some (.int .i64 h.edge)∧W1.cell? ⟨w.heap.size,1,none⟩=some (.bool h.back) from by have hs:=HWs.out;refine⟨?_, ?_⟩<;>(refine(hb.cell (by dsimp only;omega)).trans ?_;rw[←hW];clear hW;go_simp))
 have HB:=Lib.hid (Below.refl (W.heap.size) W)
 clear hW
 have HZ:=fun(W1:World) (hb:W.heap.size≤W1.heap.size)=>Lib.hid (show w.heap.size<W1.heap.size from by have:=HWs.out;omega)
 obtain⟨qx0,qx1⟩:=(HC _ HB.out).out
 have rx0:=(HZ _ HB.out.size).out
 clear qx0 qx1 rx0
 go_loopw [5] (fun v wr=> ∃k:Nat,k≤n∧v= .int .i64 k∧(∀y∈R.take k,y≠h)∧Below W.heap.size W wr) (fun v _=>n - (intOf v).toNat)
 case atStart=>exact⟨0,Nat.zero_le _,rfl,fun y hy=>by simp at hy,HB.out⟩
 case round=>
  clear HB
  obtain⟨k,hk,rfl,hall,hb⟩:=hrel
  have HB:=Lib.hid hb
  have HA:=Lib.hid hall
  clear hb hall
  obtain⟨qx0,qx1⟩:=(HC _ HB.out).out
  have rx0:=(HZ _ HB.out.size).out
  by_cases hlt:k<n
  ·obtain⟨rb,roff,rfl,hrb,hcell⟩:=HRS.out.row (by omega)
   obtain⟨v,hv⟩: ∃v,R[k]? =some v:=⟨_,List.getElem?_eq_getElem (by have:=HL.out;omega)⟩
   have HVK:=Lib.hid hv
   have HCR:=fun(W1:World) (hb:Below w.heap.size w W1)=>Lib.hid (hcell W1 (hb.mono hB) k v hv)
   clear hcell hv
   cases he:decide (v=h)
   ·have re:=eq_hf_of he
    have HN:=Lib.hid (of_decide_eq_false he)
    clear he
    go_wp2_with fail
    refine wp_name (fun c3 hc3=> ?_)
    have HB:=bnm HB HBW hc3
    have y9:=fun(x:Later c3)=>(HCR x.1 (HW.out.trans ((HB.out.trans (x.2.mono HB.out.size)).mono HW.out.size))).out
    clear hc3
    have xx:=fun(x:Later c3)=>(HC _ (bnl HB HBW x.2)).out
    simp only[forall_and] at xx
    obtain⟨xx0,xx1⟩:=xx
    refine wp_region_later (by kernel_rfl) (by kernel_rfl) ?_
    repeat (first|go_big_quiet_step ((fail))|quiet_step ((fail)))
    refine wpQuiet_nil ?_
    intro w3 hw3
    have hb3:=later_below hw3
    clear hw3
    have HB:=Lib.hid (bnl HB HBW hb3)
    clear xx0 xx1
    clear qx0 qx1 rx0
    obtain⟨qx0,qx1⟩:=(HC _ HB.out).out
    skip
    clear hb3
    have rx0:=(HZ _ HB.out.size).out
    go_wp2_with fail
    go_roundw
    case rel=>
     refine⟨k+1,by omega,by go_num,fun y hy=> ?_,HB.out⟩
     rw[take_snoc' HVK.out] at hy
     rcases List.mem_append.1 hy with hy|hy
     ·exact HA.out y hy
     ·simp at hy;subst hy;exact HN.out
    case measure=>simp[intOf];omega
   ·have re:=eq_hf_of he
    have F:=Lib.hid (show decide (h∈R)=true from decide_eq_true (of_decide_eq_true he▸List.mem_of_getElem? HVK.out))
    clear he
    go_wp2_with fail
    refine wp_name (fun c4 hc4=> ?_)
    have HB:=bnm HB HBW hc4
    have y9:=fun(x:Later c4)=>(HCR x.1 (HW.out.trans ((HB.out.trans (x.2.mono HB.out.size)).mono HW.out.size))).out
    clear hc4
    have xx:=fun(x:Later c4)=>(HC _ (bnl HB HBW x.2)).out
    simp only[forall_and] at xx
    obtain⟨xx0,xx1⟩:=xx
    refine wp_region_later (by kernel_rfl) (by kernel_rfl) ?_
    repeat (first|go_big_quiet_step ((fail))|quiet_step ((fail)))
    refine wpQuiet_nil ?_
    intro w4 hw4
    have hb4:=later_below hw4
    clear hw4
    have HB:=Lib.hid (bnl HB HBW hb4)
    clear xx0 xx1
    clear qx0 qx1 rx0
    obtain⟨qx0,qx1⟩:=(HC _ HB.out).out
    skip
    clear hb4
    have rx0:=(HZ _ HB.out.size).out
    go_wp2_with fail
    go_ret
    exact⟨by rw[F.out];rfl,bfn HW HB⟩
  ·have F:=Lib.hid (show decide (h∈R)=false from decide_eq_false (fun hm=>HA.out h (by rw[List.take_of_length_le (by have:=HL.out;omega)];exact hm) rfl))
   go_wp2_with fail
   go_ret
   exact⟨by rw[F.out];rfl,bfn HW HB⟩
structure HvS (W wr:World) (es:List Ed) (k:Nat) (v:Value):Prop where
 own:wr.ownsRow W.heap.size 91 2 v (2*k) (hfC (halvesE (es.take k)))
 blw:Below W.heap.size W wr
set_option maxRecDepth 100000 in
set_option maxHeartbeats 4000000 in
theorem r16halves_any {w:World} {B en ec:Nat} {ea:Option Addr} {es:List Ed} (he:EsIn w B ea en es) (hB:B≤w.heap.size) (hm:en≤100000) (vs:Value) (hes: ∃a n c,vs= .slice a n c):
  Calls Tryz.prog 61 #[.agg #[vs, .slice ea en ec]] w fun e w'=>(∃a c,e= .returned (.slice a (2*en) c)∧w'.ownsRow w.heap.size 91 2 (.slice a (2*en) c) (2*en) (hfC (halvesE es)))∧Below w.heap.size w w':=by
 obtain⟨va,vn,vc,rfl⟩:=hes
 have HE:=Lib.hid he
 have HM:=Lib.hid he.1
 obtain⟨i0,hi,hz0,hz1,hz2⟩:=info_parts Tryz.infoHf
 clear he
 go_enter Tryz.func61,Tryz.ntmps61
 go_wp2_with fail
 first|refine wp_name (fun W hW=> ?_)|refine calls_name (fun W hW=> ?_)
 have HW:Hid (Below w.heap.size w W):=Lib.hid (by rw[←hW];repeat (first|exact Below.refl _ _|refine below_alloc ?_))
 have HWs:Hid (W.heap.size=w.heap.size+1):=Lib.hid (by rw[←hW];simp)
 have HBW:Hid (W.heap.size≤W.heap.size):=Lib.hid (by have:=HWs.out;omega)
 have HC:=fun(W1:World) (hb:Below (W.heap.size) W W1)=>Lib.hid (show W1.cell? ⟨w.heap.size,0,none⟩=some (.slice va vn vc)∧W1.cell? ⟨w.heap.size,1,none⟩=some (.slice ea en ec) from by have hs:=HWs.out;refine⟨?_, ?_⟩<;>(refine(hb.cell (by dsimp only;omega)).trans ?_;rw[←hW];clear hW;go_simp))
 have HB:=Lib.hid (Below.refl (W.heap.size) W)
 clear hW
 have HZ:=fun(W1:World) (hb:W.heap.size≤W1.heap.size)=>Lib.hid (show w.heap.size<W1.heap.size from by have:=HWs.out;omega)
 obtain⟨qx0,qx1⟩:=(HC _ HB.out).out
 have rx0:=(HZ _ HB.out.size).out
 clear qx0 qx1 rx0
 go_loopw [3,4] (fun o v wr=> ∃(k:Nat) (ov:Value),k≤en∧v= .int .i64 k∧ov=o∧HvS W wr es k ov) (fun _ v _=>en - (intOf v).toNat)
 case atStart=>exact⟨0,_,Nat.zero_le _,rfl,rfl,by simpa[halvesE,hfC] using World.ownsRow_nil _ _ _ _,HB.out⟩
 case round=>
  clear HB
  obtain⟨k,ov,hk,rfl,rfl,hI⟩:=hrel
  have HI:=Lib.hid hI
  have HB:=Lib.hid hI.blw
  clear hI
  obtain⟨qx0,qx1⟩:=(HC _ HB.out).out
  have rx0:=(HZ _ HB.out.size).out
  by_cases hlt:k<en
  ·obtain⟨eb,eoff,rfl,heb,hcell⟩:=HE.out.row (by omega)
   obtain⟨e,hev⟩: ∃e,es[k]? =some e:=⟨_,List.getElem?_eq_getElem (by have:=HM.out;omega)⟩
   have HCE:=fun(W1:World) (hb:Below w.heap.size w W1)=>Lib.hid (hcell W1 (hb.mono hB) k e hev)
   have HSN:=Lib.hid (show halvesE (es.take (k+1))=halvesE (es.take k)++[⟨e.id,false⟩,⟨e.id,true⟩] from by rw[take_snoc' hev,halves_snoc])
   clear hcell hev
   go_wp2_with fail
   clear qx0 qx1 rx0
   have HY:=fun(w':World) (t:Below wr.heap.size wr w')=>Lib.hid (show w'.cell? ⟨w.heap.size,0,none⟩=some (.slice va vn vc)∧w'.cell? ⟨w.heap.size,1,none⟩=some (.slice (some ⟨eb,eoff,none⟩) en ec)∧w'.cell? ⟨eb,eoff+k*3,none⟩=some (.int .i64 e.id) from by
    obtain⟨d0,d1⟩:=(HC _ (HB.out.trans (t.mono HB.out.size))).out
    exact⟨d0,d1,(HCE _ (HW.out.trans ((HB.out.trans (t.mono HB.out.size)).mono HW.out.size))).out.1⟩)
   have HS0:=Lib.hid (Below.refl wr.heap.size wr).drew
   have HO0:=Lib.hid (show wr.drew.ownsRow W.heap.size 91 2 ov (2*k) (hfC (halvesE (es.take k))) from HI.out.own)
   refine wp_region_noPanic ?_
   refine wp_region_par3 17 15 (by kernel_rfl) (by kernel_rfl) (by simp) (by omega) (by kernel_rfl) (by kernel_rfl) (fun w':World=>Below wr.heap.size wr w') ?_
   refine par3_move (v:= ?_) 0 (by simp only[zga,zgb,zgc];rfl) (by kernel_rfl) (by rfl) ?_ (fun _ _ _ h=>h) ?_
   rotate_left
   ·(intro w9;go_simp;try with_reducible rfl)
   simp only[Act.put,zpa,zpb,zpc]
   refine par3_move (v:= ?_) 1 (by simp only[zga,zgb,zgc];rfl) (by kernel_rfl) (by rfl) ?_ (fun _ _ _ h=>h) ?_
   rotate_left
   ·(intro w9;go_simp;try with_reducible rfl)
   simp only[Act.put,zpa,zpb,zpc]
   refine par3_read8 (v:= ?_) 2 (by simp only[zga,zgb,zgc];rfl) (by kernel_rfl) (by rfl) HS0.out ?_ (fun _ _ _ h=>h) ?_
   rotate_left
   ·(intro w9 hSw;obtain⟨y0,y1,y2⟩:=(HY w9 hSw).out;clear hSw;go_simp;try with_reducible rfl)
   simp only[Act.put,zpa,zpb,zpc]
   refine par3_move (v:= ?_) 3 (by simp only[zga,zgb,zgc];rfl) (by kernel_rfl) (by rfl) ?_ (fun _ _ _ h=>h) ?_
   rotate_left
   ·(intro w9;go_simp;try with_reducible rfl)
   simp only[Act.put,zpa,zpb,zpc]
   refine par3_move (v:= ?_) 4 (by simp only[zga,zgb,zgc];rfl) (by kernel_rfl) (by rfl) ?_ (fun _ _ _ h=>h) ?_
   rotate_left
   ·(intro w9;go_simp;try with_reducible rfl)
   simp only[Act.put,zpa,zpb,zpc]
   refine par3_move (v:= ?_) 5 (by simp only[zga,zgb,zgc];rfl) (by kernel_rfl) (by rfl) ?_ (fun _ _ _ h=>h) ?_
   rotate_left
   ·(intro w9;go_simp;try with_reducible rfl)
   simp only[Act.put,zpa,zpb,zpc]
   refine par3_read8 (v:= ?_) 6 (by simp only[zga,zgb,zgc];rfl) (by kernel_rfl) (by rfl) HS0.out ?_ (fun _ _ _ h=>h) ?_
   rotate_left
   ·(intro w9 hSw;obtain⟨y0,y1,y2⟩:=(HY w9 hSw).out;clear hSw;go_simp;try with_reducible rfl)
   simp only[Act.put,zpa,zpb,zpc]
   refine par3_move (v:= ?_) 7 (by simp only[zga,zgb,zgc];rfl) (by kernel_rfl) (by rfl) ?_ (fun _ _ _ h=>h) ?_
   rotate_left
   ·(intro w9;go_simp;try with_reducible rfl)
   simp only[Act.put,zpa,zpb,zpc]
   refine par3_move (v:= ?_) 8 (by simp only[zga,zgb,zgc];rfl) (by kernel_rfl) (by rfl) ?_ (fun _ _ _ h=>h) ?_
   rotate_left
   ·(intro w9;go_simp;try with_reducible rfl)
   simp only[Act.put,zpa,zpb,zpc]
   refine par3_read8 (v:= ?_) 9 (by simp only[zga,zgb,zgc];rfl) (by kernel_rfl) (by rfl) HS0.out ?_ (fun _ _ _ h=>h) ?_
   rotate_left
   ·(intro w9 hSw;obtain⟨y0,y1,y2⟩:=(HY w9 hSw).out;clear hSw;go_simp;try with_reducible rfl)
   simp only[Act.put,zpa,zpb,zpc]
   refine par3_move (v:= ?_) 10 (by simp only[zga,zgb,zgc];rfl) (by kernel_rfl) (by rfl) ?_ (fun _ _ _ h=>h) ?_
   rotate_left
   ·(intro w9;go_simp;try with_reducible rfl)
   simp only[Act.put,zpa,zpb,zpc]
   refine par3_move (v:= ?_) 11 (by simp only[zga,zgb,zgc];rfl) (by kernel_rfl) (by rfl) ?_ (fun _ _ _ h=>h) ?_
   rotate_left
   ·(intro w9;go_simp;try with_reducible rfl)
   simp only[Act.put,zpa,zpb,zpc]
   refine par3_move (v:= ?_) 12 (by simp only[zga,zgb,zgc];rfl) (by kernel_rfl) (by rfl) ?_ (fun _ _ _ h=>h) ?_
   rotate_left
   ·(intro w9;go_simp;try with_reducible rfl)
   simp only[Act.put,zpa,zpb,zpc]
   refine par3_read8 (v:= ?_) 13 (by simp only[zga,zgb,zgc];rfl) (by kernel_rfl) (by rfl) HS0.out ?_ (fun _ _ _ h=>h) ?_
   rotate_left
   ·(intro w9 hSw;obtain⟨y0,y1,y2⟩:=(HY w9 hSw).out;clear hSw;go_simp;try with_reducible rfl)
   simp only[Act.put,zpa,zpb,zpc]
   refine par3_move (v:= ?_) 14 (by simp only[zga,zgb,zgc];rfl) (by kernel_rfl) (by rfl) ?_ (fun _ _ _ h=>h) ?_
   rotate_left
   ·(intro w9;go_simp;try with_reducible rfl)
   simp only[Act.put,zpa,zpb,zpc]
   refine par3_nm (fun W0 hW0=> ?_)
   rw[←hW0] at HS0 HO0
   clear hW0
   refine par3_one 15 (by simp only[zga,zgb,zgc];rfl) (by kernel_rfl) (by rfl) ?_
   refine owp_val (v:= ?_) (w1:= ?_) ?_ ?_
   rotate_left 2
   ·(go_simp;constructor<;>rfl)
   refine⟨fun _ h=>absurd h (by omega), ?_⟩
   simp only[Act.put,zpa,zpb,zpc]
   refine par3_one 16 (by simp only[zga,zgb,zgc];rfl) (by kernel_rfl) (by rfl) ?_
   refine owp_append_near rfl (.tmp 12) (.tmp 27) 33 rfl W.heap.size 91 i0 (.agg #[.int .i64 0, .bool false]) 2 16 Tryz.underlying33 hi hz0 hz1 hz2 rfl (by decide) ov (2*k) _ rfl (HO0.out.alloc _) ⟨W0.heap.size,0,none⟩ 2 2 [.int .i64 e.id, .bool false, .int .i64 e.id, .bool true] rfl (by decide) rfl (cell_list_at _ [.int .i64 e.id, .bool false, .int .i64 e.id, .bool true] _ rfl) (by intro u hu;simp at hu;rcases hu with rfl|rfl|rfl|rfl<;>rfl) (by unfold maxLen;omega) (by omega) (by have:=HB.out.size;have:=HS0.out.size;simp;omega) ?_
   intro g cap w5 hown hgr hat
   have HN:=Lib.hid (show HvS W w5 es (k+1) (.slice (some ⟨g,0,none⟩) (2*k+2) cap) from⟨by
    rw[HSN.out,hfC_app]
    exact hown,((HB.out.trans (HS0.out.mono HB.out.size)).alloc (Nat.le_trans HB.out.size HS0.out.size) _).grown hgr (Nat.le_trans (Nat.le_trans HB.out.size HS0.out.size) (by simp)) (fun q hq=>(HO0.out.lt q hq).1)⟩)
   refine⟨fun _ h=>absurd h (by omega), ?_⟩
   clear hown hgr hat
   simp only[Act.put,zpa,zpb,zpc]
   refine par3_tail _ (by simp only[List.drop_succ_cons,List.drop_zero];rfl) (by kernel_rfl) ?_
   go_wp2_with fail
   refine NoPanic.normal ?_
   go_wp2_with fail
   go_roundw
   case rel=>exact⟨k+1,_,by omega,by go_num,rfl,HN.out⟩
   case measure=>simp[intOf];omega
  ·obtain rfl:k=en:=by omega
   obtain⟨oa,oc,rfl⟩:=own_form HI.out.own
   have hT:es.take k=es:=List.take_of_length_le (by have:=HM.out;omega)
   have h1:=HI.out.own
   rw[hT] at h1
   have HT:=Lib.hid h1
   clear h1 hT
   go_wp2_with fail
   go_ret
   exact⟨⟨oa,oc,rfl,ownsRow_le HT.out HW.out.size⟩,HW.out.trans (HB.out.mono HW.out.size)⟩
end Go.Proofs.YthopjhifepijiaaGreat
namespace Go.Proofs.YthopjhifepijiaaGreat
open Go.RowKit Go.Joins
theorem results_cell2 {fn:Func} {p u:Tmp} {ty:TypeId} (h:fn.results= #[.cell p ty, .cell u ty]) (tmps:Array Value) (P:Program) (w:World):
  (results fn tmps).run P w=
   ((asAddr (tmps.getD p undef)).run P w).andThen fun a w₁=>((loadVar ty a).run P w₁).andThen fun v w₂=>((asAddr (tmps.getD u undef)).run P w₂).andThen fun b w₃=>((loadVar ty b).run P w₃).andThen fun x w₄=> .ok (.tuple #[v,x]) w₄:=by
 simp only[results,h]
 simp[Sem.run_bind,Result.andThen]
theorem pt_load {W:World} {g:Nat} {q:Pt} (hr:W.rowIs g 42 2 (ptF q)):(loadVar 42 ⟨g,0,none⟩).run Tryz.prog W= .ok (ptV q) W:=by
 obtain⟨c,hc,hs,hi⟩:=hr
 have hcs:c= #[.int .i64 q.x, .int .i64 q.y]:=by
  apply Array.ext_getElem?
  intro i
  by_cases hlt:i<2
  ·rw[hi i hlt]
   rcases i with _|_|i<;>first|rfl|(exfalso;omega)
  ·rw[Array.getElem?_eq_none (by omega),Array.getElem?_eq_none (by simp;omega)]
 subst hcs
 exact run_loadVar_row (P:=Tryz.prog) W g _ 42 _ _ _ hc Tryz.underlying42 rfl (by kernel_rfl)
theorem res_pt2 {fn:Func} {p u:Tmp} {tmps:Array Value} {W:World} {g k:Nat} {q r:Pt} (h:fn.results= #[.cell p 42, .cell u 42]) (hp:tmps.getD p undef= .pointer (some ⟨g,0,none⟩)) (hu:tmps.getD u undef= .pointer (some ⟨k,0,none⟩))
  (hr:W.rowIs g 42 2 (ptF q)) (hk:W.rowIs k 42 2 (ptF r)):(results fn tmps).run Tryz.prog W= .ok (.tuple #[ptV q,ptV r]) W:=by
 rw[results_cell2 h]
 simp only[hp,hu,asAddr,Sem.run_pure,Result.andThen_ok,pt_load hr,pt_load hk]
theorem Tryz.results64:Tryz.f64.results= #[.cell 4 42, .cell 5 42]:=by kernel_rfl
theorem endsP_from {p:PL} {h:Hf} (hk:hasE p.es h.edge=true):endsP p h=((findV p.vs (fromH p.es h)).at_,(findV p.vs (fromH p.es (twinH h))).at_):=by
 rw[fromH_find hk,fromH_find (h:=twinH h) hk]
 unfold endsP
 rw[show(twinH h).edge=h.edge from rfl,show(twinH h).back= !h.back from rfl]
 cases h.back<;>rfl
structure HalfIn (p:PL) (h:Hf):Prop where
 e:hasE p.es h.edge=true
 a:hasV p.vs (findE p.es h.edge).a=true
 b:hasV p.vs (findE p.es h.edge).b=true
theorem HalfIn.from_ {p:PL} {h:Hf} (k:HalfIn p h):hasV p.vs (fromH p.es h)=true:=by
 rw[fromH_find k.e]
 split
 ·exact k.b
 ·exact k.a
theorem HalfIn.to {p:PL} {h:Hf} (k:HalfIn p h):hasV p.vs (fromH p.es (twinH h))=true:=HalfIn.from_ (h:=twinH h) ⟨k.e,k.a,k.b⟩
theorem RightP.halfIn {p:PL} (r:RightP p) {h:Hf} (hk:hasE p.es h.edge=true):HalfIn p h:=by
 obtain⟨i,hi⟩: ∃i,p.es[i]? =some (findE p.es h.edge):=⟨_,(placeE_at hk).1⟩
 obtain⟨A,B,he⟩:=r.e i _ hi
 exact⟨hk,hasV_iff.2 ⟨A,he.pa⟩,hasV_iff.2 ⟨B,he.pb⟩⟩
set_option maxRecDepth 100000 in
set_option maxHeartbeats 8000000 in
theorem r17ends_any {w:World} {B vn vc en ec:Nat} {va ea:Option Addr} {p:PL} (hv:VsIn w B va vn p.vs) (he:EsIn w B ea en p.es) (hB:B≤w.heap.size) (hn:vn≤100000) (hm:en≤100000) (h:Hf) (hk:HalfIn p h):
  Calls Tryz.prog 64 #[.agg #[.slice va vn vc, .slice ea en ec], .agg #[.int .i64 h.edge, .bool h.back]] w fun e w'=>e= .returned (.tuple #[ptV (endsP p h).1,ptV (endsP p h).2])∧Below w.heap.size w w':=by
 have HF1:=fun(W:World) (hb:Below w.heap.size w W)=>Lib.hid (r16from_any (w:=W) (ec:=ec) (he.below (hb.mono hB)) (Nat.le_trans hB hb.size) hm (.slice va vn vc) ⟨_,_,_,rfl⟩ h hk.e)
 have HF2:=fun(W:World) (hb:Below w.heap.size w W)=>Lib.hid (r16from_any (w:=W) (ec:=ec) (he.below (hb.mono hB)) (Nat.le_trans hB hb.size) hm (.slice va vn vc) ⟨_,_,_,rfl⟩ (twinH h) hk.e)
 have HA1:=fun(W:World) (hb:Below w.heap.size w W)=>Lib.hid (r15at_any (w:=W) (vc:=vc) (hv.below (hb.mono hB)) (Nat.le_trans hB hb.size) hn (.slice ea en ec) ⟨_,_,_,rfl⟩ (fromH p.es h) hk.from_)
 have HA2:=fun(W:World) (hb:Below w.heap.size w W)=>Lib.hid (r15at_any (w:=W) (vc:=vc) (hv.below (hb.mono hB)) (Nat.le_trans hB hb.size) hn (.slice ea en ec) ⟨_,_,_,rfl⟩ (fromH p.es (twinH h)) hk.to)
 have HTW:=fun(W:World) (hb:Below w.heap.size w W)=>Lib.hid (r16twin_any h W)
 rw[endsP_from hk.e]
 clear hv he hk
 generalize twinH h=t at*
 generalize fromH p.es h=i1 at*
 generalize fromH p.es t=i2 at*
 generalize (findV p.vs i1).at_=PA at*
 generalize (findV p.vs i2).at_=PB at*
 obtain⟨hh,hbk⟩:=h
 obtain⟨tt,tbk⟩:=t
 simp only at*
 go_enter Tryz.func64,Tryz.ntmps64
 go_wp2_with fail
 first|refine wp_name (fun W hW=> ?_)|refine calls_name (fun W hW=> ?_)
 have HW:Hid (Below w.heap.size w W):=Lib.hid (by rw[←hW];repeat (first|exact Below.refl _ _|refine below_alloc ?_))
 have HWs:Hid (W.heap.size=w.heap.size+1+1+1+1):=Lib.hid (by rw[←hW];simp)
 have HBW:Hid (W.heap.size≤W.heap.size):=Lib.hid (by have:=HWs.out;omega)
 have HC:=fun(W1:World) (hb:Below (W.heap.size) W W1)=>Lib.hid (show W1.cell? ⟨w.heap.size,0,none⟩=some (.slice va vn vc)∧W1.cell? ⟨w.heap.size,1,none⟩=some (.slice ea en ec)∧W1.cell? ⟨w.heap.size+1,0,none⟩=some (.int .i64 hh)∧W1.cell? ⟨w.heap.size+1,1,none⟩=some (.bool hbk)∧W1.cell? ⟨w.heap.size+1+1,0,none⟩=some (.int .i64 0)∧W1.cell? ⟨w.heap.size+1+1,1,none⟩=some (.int .i64 0)∧W1.cell? ⟨w.heap.size+1+1+1,0,none⟩=some (.int .i64 0)∧W1.cell? ⟨w.heap.size+1+1+1,1,none⟩=some (.int .i64 0) from by have hs:=HWs.out;refine⟨?_, ?_, ?_, ?_, ?_, ?_, ?_, ?_⟩<;>(refine(hb.cell (by dsimp only;omega)).trans ?_;rw[←hW];clear hW;go_simp))
 have HB:=Lib.hid (Below.refl (W.heap.size) W)
 have HZ:=fun(W1:World) (hb:W.heap.size≤W1.heap.size)=>Lib.hid (show w.heap.size<W1.heap.size∧w.heap.size+1<W1.heap.size∧w.heap.size+1+1<W1.heap.size∧w.heap.size+1+1+1<W1.heap.size from by have:=HWs.out;refine⟨?_, ?_, ?_, ?_⟩<;>omega)
 obtain⟨qx0,qx1,qx2,qx3,qx4,qx5,qx6,qx7⟩:=(HC _ HB.out).out
 obtain⟨rx0,rx1,rx2,rx3⟩:=(HZ _ HB.out.size).out
 have HPA:=Lib.hid (show W.rowIs (w.heap.size+1+1) 42 2 (ptF ⟨0,0⟩) from by
  have:=(World.rowIs_alloc ((w.alloc (.cells #[.slice va vn vc, .slice ea en ec] 25)).alloc (.cells #[.int .i64 hh, .bool hbk] 91)) #[.int .i64 0, .int .i64 0] 42 (ptF ⟨0,0⟩) (ptF_get ⟨0,0⟩)).alloc (.cells #[.int .i64 0, .int .i64 0] 42)
  rw[hW] at this
  simpa using this)
 have HPB:=Lib.hid (show W.rowIs (w.heap.size+1+1+1) 42 2 (ptF ⟨0,0⟩) from by
  have:=World.rowIs_alloc (((w.alloc (.cells #[.slice va vn vc, .slice ea en ec] 25)).alloc (.cells #[.int .i64 hh, .bool hbk] 91)).alloc (.cells #[.int .i64 0, .int .i64 0] 42)) #[.int .i64 0, .int .i64 0] 42 (ptF ⟨0,0⟩) (ptF_get ⟨0,0⟩)
  rw[hW] at this
  simpa using this)
 clear hW
 clear qx0 qx1 qx2 qx3 qx4 qx5 qx6 qx7 rx0 rx1 rx2 rx3
 go_upto_region 1 with fail
 have HZR:=fun(W1:World) (t:Touch [w.heap.size+1+1] W W1)=>rowIs_touch HPB.out t (by simp)
 have HLO:=fun(W1:World) (t:Touch [w.heap.size+1+1] W W1)=>Lib.hid (HW.out.trans (Touch.below t HW.out.size (by intro b hb;simp at hb;omega)))
 have HY:=fun(w':World) (t:Touch [w.heap.size+1+1] W w')=>Lib.hid (show w'.cell? ⟨w.heap.size,0,none⟩=some (.slice va vn vc)∧w'.cell? ⟨w.heap.size,1,none⟩=some (.slice ea en ec)∧w'.cell? ⟨w.heap.size+1,0,none⟩=some (.int .i64 hh)∧w'.cell? ⟨w.heap.size+1,1,none⟩=some (.bool hbk) from by
  have hs:=HWs.out
  obtain⟨c0,c1,c2,c3, -⟩:=(HC W (Below.refl _ _)).out
  exact⟨(t.cell (p:=⟨w.heap.size,_,none⟩) (by show w.heap.size<_;omega) (by simp<;>omega)).trans c0,(t.cell (p:=⟨w.heap.size,_,none⟩) (by show w.heap.size<_;omega) (by simp<;>omega)).trans c1,(t.cell (p:=⟨w.heap.size+1,_,none⟩) (by show w.heap.size+1<_;omega) (by simp)).trans c2,(t.cell (p:=⟨w.heap.size+1,_,none⟩) (by show w.heap.size+1<_;omega) (by simp)).trans c3⟩)
 have HS0:=Lib.hid (Touch.refl [w.heap.size+1+1] W).drew
 refine wp_region_noPanic ?_
 refine wp_region_par3 12 12 (by kernel_rfl) (by kernel_rfl) (by simp) (by omega) (by kernel_rfl) (by kernel_rfl) (fun w':World=>Touch [w.heap.size+1+1] W w') ?_
 refine par3_read (v:= ?_) 0 (by simp only[zga,zgb,zgc];rfl) (by kernel_rfl) (by rfl) HS0.out ?_ (fun _ _ _ h=>h) ?_
 rotate_left
 ·(intro w9 hSw;obtain⟨y0,y1,y2,y3⟩:=(HY w9 hSw).out;clear hSw;go_simp;try with_reducible rfl)
 simp only[Act.put,zpa,zpb,zpc]
 refine par3_read (v:= ?_) 1 (by simp only[zga,zgb,zgc];rfl) (by kernel_rfl) (by rfl) HS0.out ?_ (fun _ _ _ h=>h) ?_
 rotate_left
 ·(intro w9 hSw;obtain⟨y0,y1,y2,y3⟩:=(HY w9 hSw).out;clear hSw;go_simp;try with_reducible rfl)
 simp only[Act.put,zpa,zpb,zpc]
 refine par3_read (v:= ?_) 2 (by simp only[zga,zgb,zgc];rfl) (by kernel_rfl) (by rfl) HS0.out ?_ (fun _ _ _ h=>h) ?_
 rotate_left
 ·(intro w9 hSw;obtain⟨y0,y1,y2,y3⟩:=(HY w9 hSw).out;clear hSw;go_simp;try with_reducible rfl)
 simp only[Act.put,zpa,zpb,zpc]
 refine par3_read (v:= ?_) 5 (by simp only[zga,zgb,zgc];rfl) (by kernel_rfl) (by rfl) HS0.out ?_ (fun _ _ _ h=>h) ?_
 rotate_left
 ·(intro w9 hSw;obtain⟨y0,y1,y2,y3⟩:=(HY w9 hSw).out;clear hSw;go_simp;try with_reducible rfl)
 simp only[Act.put,zpa,zpb,zpc]
 refine par3_read (v:= ?_) 6 (by simp only[zga,zgb,zgc];rfl) (by kernel_rfl) (by rfl) HS0.out ?_ (fun _ _ _ h=>h) ?_
 rotate_left
 ·(intro w9 hSw;obtain⟨y0,y1,y2,y3⟩:=(HY w9 hSw).out;clear hSw;go_simp;try with_reducible rfl)
 simp only[Act.put,zpa,zpb,zpc]
 refine par3_read (v:= ?_) 7 (by simp only[zga,zgb,zgc];rfl) (by kernel_rfl) (by rfl) HS0.out ?_ (fun _ _ _ h=>h) ?_
 rotate_left
 ·(intro w9 hSw;obtain⟨y0,y1,y2,y3⟩:=(HY w9 hSw).out;clear hSw;go_simp;try with_reducible rfl)
 simp only[Act.put,zpa,zpb,zpc]
 have HA0:=Lib.hid (show W.drew.rowIs (w.heap.size+1+1) 42 2 (ptF ⟨0,0⟩) from HPA.out)
 refine par3_nm (fun W0 hW0=> ?_)
 rw[←hW0] at HS0 HA0
 clear hW0
 refine par3_one 3 (by simp only[zga,zgb,zgc];rfl) (by kernel_rfl) (by rfl) ?_
 refine owp_call (by go_simp;constructor<;>rfl) ?_
 refine(HF1 _ (HLO _ HS0.out).out).out.mono ?_
 rintro x W3 ⟨rfl,hb9⟩
 have HS3:=Lib.hid (touch_later HS0.out hb9)
 have HR3:=Lib.hid (rowIs_touch HA0.out (Touch.of_below (F:=[]) hb9) (by simp))
 refine⟨_,rfl,fun s _=>HS3.out, ?_⟩
 clear hb9
 simp only[Act.put,zpa,zpb,zpc]
 refine par3_one 4 (by simp only[zga,zgb,zgc];rfl) (by kernel_rfl) (by rfl) ?_
 refine owp_call (by go_simp;constructor<;>rfl) ?_
 refine(HA1 _ (HLO _ HS3.out).out).out.mono ?_
 rintro x W4 ⟨rfl,hb9⟩
 have HS4:=Lib.hid (touch_later HS3.out hb9)
 have HR4:=Lib.hid (rowIs_touch HR3.out (Touch.of_below (F:=[]) hb9) (by simp))
 refine⟨_,rfl,fun s _=>HS4.out, ?_⟩
 clear hb9
 simp only[Act.put,zpa,zpb,zpc]
 refine par3_one 8 (by simp only[zga,zgb,zgc];rfl) (by kernel_rfl) (by rfl) ?_
 refine owp_call (by go_simp;constructor<;>rfl) ?_
 refine(HTW _ (HLO _ HS4.out).out).out.mono ?_
 rintro x W8 ⟨rfl,hb9⟩
 have HS8:=Lib.hid (touch_later HS4.out hb9)
 have HR8:=Lib.hid (rowIs_touch HR4.out (Touch.of_below (F:=[]) hb9) (by simp))
 refine⟨_,rfl,fun s _=>HS8.out, ?_⟩
 clear hb9
 simp only[Act.put,zpa,zpb,zpc]
 refine par3_one 9 (by simp only[zga,zgb,zgc];rfl) (by kernel_rfl) (by rfl) ?_
 refine owp_call (by go_simp;constructor<;>rfl) ?_
 refine(HF2 _ (HLO _ HS8.out).out).out.mono ?_
 rintro x W9 ⟨rfl,hb9⟩
 have HS9:=Lib.hid (touch_later HS8.out hb9)
 have HR9:=Lib.hid (rowIs_touch HR8.out (Touch.of_below (F:=[]) hb9) (by simp))
 refine⟨_,rfl,fun s _=>HS9.out, ?_⟩
 clear hb9
 simp only[Act.put,zpa,zpb,zpc]
 refine par3_one 10 (by simp only[zga,zgb,zgc];rfl) (by kernel_rfl) (by rfl) ?_
 refine owp_call (by go_simp;constructor<;>rfl) ?_
 refine(HA2 _ (HLO _ HS9.out).out).out.mono ?_
 rintro x W10 ⟨rfl,hb9⟩
 have HS10:=Lib.hid (touch_later HS9.out hb9)
 have HR10:=Lib.hid (rowIs_touch HR9.out (Touch.of_below (F:=[]) hb9) (by simp))
 refine⟨_,rfl,fun s _=>HS10.out, ?_⟩
 clear hb9
 simp only[Act.put,zpa,zpb,zpc]
 refine par3_one 11 (by simp only[zga,zgb,zgc];rfl) (by kernel_rfl) (by rfl) ?_
 have f0:=World.rowIs.frozen HR10.out 0
 have f1:=World.rowIs.frozen HR10.out 1
 have p0:=World.rowIs.cell HR10.out (i:=0) (by decide)
 have p1:=World.rowIs.cell HR10.out (i:=1) (by decide)
 refine owp_skip (w1:= ?_) ?_ ?_
 rotate_left
 ·(go_simp;first|rfl|(constructor<;>rfl))
 refine⟨fun s _=>(s.setCell (.inl (by simp)) _).setCell (.inl (by simp)) _, ?_⟩
 simp only[Act.put,zpa,zpb,zpc]
 clear f0 f1 p0 p1
 have HS11:=Lib.hid ((HS10.out.setCell (p:=⟨w.heap.size+1+1,0,none⟩) (.inl (by simp)) (.int .i64 PA.x)).setCell (p:=⟨w.heap.size+1+1,1,none⟩) (.inl (by simp)) (.int .i64 PA.y))
 have HR11:=Lib.hid (World.rowIs.congr (f:=_) (g:=ptF PA) (World.rowIs.set (World.rowIs.set HR10.out 0 (.int .i64 PA.x)) 1 (.int .i64 PA.y)) (fun i hi=>by rcases i with _|_|i<;>first|rfl|exact absurd hi (by omega)))
 refine par3_nm (fun W11 hW9=> ?_)
 rw[←hW9] at HS11 HR11
 clear hW9
 have HZ:=Lib.hid (HZR _ HS11.out)
 have f0:=World.rowIs.frozen HZ.out 0
 have f1:=World.rowIs.frozen HZ.out 1
 have p0:=World.rowIs.cell HZ.out (i:=0) (by decide)
 have p1:=World.rowIs.cell HZ.out (i:=1) (by decide)
 refine par3_tail _ (by simp only[List.drop_succ_cons,List.drop_zero];rfl) (by kernel_rfl) ?_
 go_wp2_with fail
 refine NoPanic.normal ?_
 go_wp2_with fail
 refine bodyPost_ret_by (res_pt2 (q:=PA) (r:=PB) Tryz.results64 rfl rfl (rowIs_touch (F:=[w.heap.size+1+1+1]) HR11.out (((Touch.refl _ _).setCell (.inl (by simp)) _).setCell (.inl (by simp)) _) (by simp)) (World.rowIs.congr (World.rowIs.set (World.rowIs.set HZ.out 0 _) 1 _) (fun i hi=>by rcases i with _|_|i<;>first|rfl|exact absurd hi (by omega)))) rfl ?_
 exact⟨rfl,((HLO _ HS11.out).out.setCell (p:=⟨w.heap.size+1+1+1,0,none⟩) (by show _≤w.heap.size+1+1+1;omega) _).setCell (p:=⟨w.heap.size+1+1+1,1,none⟩) (by show _≤w.heap.size+1+1+1;omega) _⟩
end Go.Proofs.YthopjhifepijiaaGreat
namespace Go.Proofs.YthopjhifepijiaaGreat
open Go.RowKit
set_option maxRecDepth 100000 in
set_option maxHeartbeats 2000000 in
theorem r5wedge_any (x y:Int) (w:World):Calls Tryz.prog 109 #[.int .i64 x, .int .i64 y] w fun e w'=>e= .returned (.int .i64 (wedgeI x y))∧Below w.heap.size w w':=by
 obtain⟨v,hv⟩: ∃v,v=wedgeI x y:=⟨_,rfl⟩
 rw[←hv]
 have hc:(v=0∧(y==0)=true∧0<x)∨(v=4∧(y==0)=true∧ ¬0<x)∨(v=1∧(y==0)=false∧0<y∧0<x)∨(v=2∧(y==0)=false∧0<y∧ ¬0<x∧(x==0)=true)∨(v=3∧(y==0)=false∧0<y∧ ¬0<x∧(x==0)=false)∨
   (v=5∧(y==0)=false∧ ¬0<y∧x<0)∨(v=6∧(y==0)=false∧ ¬0<y∧ ¬x<0∧(x==0)=true)∨(v=7∧(y==0)=false∧ ¬0<y∧ ¬x<0∧(x==0)=false):=by
  rw[hv]
  simp only[beq_iff_eq,beq_eq_false_iff_ne,ne_eq]
  rcases wedge_cases x y with h|h|h|h|h|h|h|h<;>(obtain⟨e,h⟩:=h;rw[e];simp;omega)
 clear hv
 rcases hc with ⟨rfl,h1,h2⟩|⟨rfl,h1,h2⟩|⟨rfl,h1,h2,h3⟩|⟨rfl,h1,h2,h3,h4⟩|⟨rfl,h1,h2,h3,h4⟩|⟨rfl,h1,h2,h3⟩|⟨rfl,h1,h2,h3,h4⟩|⟨rfl,h1,h2,h3,h4⟩
 all_goals
  go_enter Tryz.func109,Tryz.ntmps109
  go_wp2_with fail
  go_ret
  exact⟨rfl,Below.refl _ _⟩
set_option maxRecDepth 100000 in
set_option maxHeartbeats 4000000 in
theorem r5around_any (o a b:Pt) (w:World) (ho:inB o=true) (ha:inB a=true) (hb:inB b=true):
  Calls Tryz.prog 101 #[.agg #[.int .i64 o.x, .int .i64 o.y], .agg #[.int .i64 a.x, .int .i64 a.y], .agg #[.int .i64 b.x, .int .i64 b.y]] w fun e w'=>e= .returned (.int .i64 (arndR o a b))∧Below w.heap.size w w':=by
 have HT:=fun w=>Lib.hid (r5turn_any o a b w ho ha hb)
 have H1:=fun w=>Lib.hid (r5wedge_any (a.x - o.x) (a.y - o.y) w)
 have H2:=fun w=>Lib.hid (r5wedge_any (b.x - o.x) (b.y - o.y) w)
 have hd:=inB_iff.1 ho
 have he:=inB_iff.1 ha
 have hf:=inB_iff.1 hb
 have ht:trn o a b= -1∨trn o a b=0∨trn o a b=1:=by rcases trn_cs o a b with h|h|h<;>omega
 unfold arndR
 generalize wedgeI (a.x - o.x) (a.y - o.y)=p at*
 generalize wedgeI (b.x - o.x) (b.y - o.y)=q at*
 generalize trn o a b=t at*
 clear ho ha hb
 rcases(show p<q∨(¬p<q∧q<p)∨(¬p<q∧ ¬q<p) by omega) with h1|⟨h1,h2⟩|⟨h1,h2⟩
 all_goals
  first|rw[if_pos h1]|rw[if_neg h1,if_pos h2]|rw[if_neg h1,if_neg h2]
  go_enter Tryz.func101,Tryz.ntmps101
  go_wp2_with fail
  first|refine wp_name (fun W hW=> ?_)|refine calls_name (fun W hW=> ?_)
  have HW:Hid (Below w.heap.size w W):=Lib.hid (by rw[←hW];repeat (first|exact Below.refl _ _|refine below_alloc ?_))
  have HWs:Hid (W.heap.size=w.heap.size+1+1+1):=Lib.hid (by rw[←hW];simp)
  have HBW:Hid (W.heap.size≤W.heap.size):=Lib.hid (by have:=HWs.out;omega)
  have HC:=fun(W1:World) (hb:Below (W.heap.size) W W1)=>Lib.hid (show W1.cell? ⟨w.heap.size,0,none⟩=some (.int .i64 o.x)∧W1.cell? ⟨w.heap.size,1,none⟩=some (.int .i64 o.y)∧W1.cell? ⟨w.heap.size+1,0,none⟩=some (.int .i64 a.x)∧W1.cell? ⟨w.heap.size+1,1,none⟩=some (.int .i64 a.y)∧W1.cell? ⟨w.heap.size+1+1,0,none⟩=some (.int .i64 b.x)∧W1.cell? ⟨w.heap.size+1+1,1,none⟩=some (.int .i64 b.y) from by have hs:=HWs.out;refine⟨?_, ?_, ?_, ?_, ?_, ?_⟩<;>(refine(hb.cell (by dsimp only;omega)).trans ?_;rw[←hW];clear hW;go_simp))
  have HB:=Lib.hid (Below.refl (W.heap.size) W)
  clear hW
  have HZ:=fun(W1:World) (hb:W.heap.size≤W1.heap.size)=>Lib.hid (show w.heap.size<W1.heap.size∧w.heap.size+1<W1.heap.size∧w.heap.size+1+1<W1.heap.size from by have:=HWs.out;refine⟨?_, ?_, ?_⟩<;>omega)
  obtain⟨qx0,qx1,qx2,qx3,qx4,qx5⟩:=(HC _ HB.out).out
  obtain⟨rx0,rx1,rx2⟩:=(HZ _ HB.out.size).out
  refine((H1 _).out).mono ?_
  rintro e w2 ⟨rfl,hb2⟩
  have HB:=bnx HB HBW hb2
  clear qx0 qx1 qx2 qx3 qx4 qx5 rx0 rx1 rx2
  obtain⟨qx0,qx1,qx2,qx3,qx4,qx5⟩:=(HC _ HB.out).out
  clear hb2
  obtain⟨rx0,rx1,rx2⟩:=(HZ _ HB.out.size).out
  go_wp2_with fail
  refine((H2 _).out).mono ?_
  rintro e w3 ⟨rfl,hb3⟩
  have HB:=bnx HB HBW hb3
  clear qx0 qx1 qx2 qx3 qx4 qx5 rx0 rx1 rx2
  obtain⟨qx0,qx1,qx2,qx3,qx4,qx5⟩:=(HC _ HB.out).out
  clear hb3
  obtain⟨rx0,rx1,rx2⟩:=(HZ _ HB.out.size).out
  go_wp2_with fail
  try
   refine((HT _).out).mono ?_
   rintro e w4 ⟨rfl,hb4⟩
   have HB:=bnx HB HBW hb4
   clear qx0 qx1 qx2 qx3 qx4 qx5 rx0 rx1 rx2
   obtain⟨qx0,qx1,qx2,qx3,qx4,qx5⟩:=(HC _ HB.out).out
   clear hb4
   obtain⟨rx0,rx1,rx2⟩:=(HZ _ HB.out.size).out
   go_wp2_with fail
  go_ret
  exact⟨rfl,bfn HW HB⟩
end Go.Proofs.YthopjhifepijiaaGreat
