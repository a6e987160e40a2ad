/- Lemmas on the way to the statement. -/
import Derived.Test.YthopjhifepijiaaJ13
import Derived.Test.YthopjhifepijiaaJ15
set_option linter.unusedSimpArgs false
set_option linter.unusedVariables false
namespace Go.Proofs.Ythopjhifepijiaa
open Go.RowKit Go.Joins
theorem VsIn.row {w:World} {B:Nat} {a:Option Addr} {n:Nat} {l:List Vx} (h:VsIn w B a n l) (hn:0<n): ∃b off,a=some ⟨b,off,none⟩∧b<B∧ ∀w',Below B w w'→ ∀i v,l[i]? =some v→
  w'.cell? ⟨b,off+i*3,none⟩=some (.int .i64 v.id)∧w'.cell? ⟨b,off+i*3+1,none⟩=some (.int .i64 v.at_.x)∧w'.cell? ⟨b,off+i*3+1+1,none⟩=some (.int .i64 v.at_.y):=by
 obtain⟨h1,h2|⟨b,off,ha,hlt,hc⟩⟩:=h
 ·omega
 ·exact⟨b,off,ha,hlt,fun w' hb i v hv=>⟨(hb.cell (p:=⟨b,_,none⟩) hlt).trans (hc i v hv).1,(hb.cell (p:=⟨b,_,none⟩) hlt).trans (hc i v hv).2.1,(hb.cell (p:=⟨b,_,none⟩) hlt).trans (hc i v hv).2.2⟩⟩
theorem EsIn.row {w:World} {B:Nat} {a:Option Addr} {n:Nat} {l:List Ed} (h:EsIn w B a n l) (hn:0<n): ∃b off,a=some ⟨b,off,none⟩∧b<B∧ ∀w',Below B w w'→ ∀i v,l[i]? =some v→
  w'.cell? ⟨b,off+i*3,none⟩=some (.int .i64 v.id)∧w'.cell? ⟨b,off+i*3+1,none⟩=some (.int .i64 v.a)∧w'.cell? ⟨b,off+i*3+1+1,none⟩=some (.int .i64 v.b):=by
 obtain⟨h1,h2|⟨b,off,ha,hlt,hc⟩⟩:=h
 ·omega
 ·exact⟨b,off,ha,hlt,fun w' hb i v hv=>⟨(hb.cell (p:=⟨b,_,none⟩) hlt).trans (hc i v hv).1,(hb.cell (p:=⟨b,_,none⟩) hlt).trans (hc i v hv).2.1,(hb.cell (p:=⟨b,_,none⟩) hlt).trans (hc i v hv).2.2⟩⟩
theorem pid_suc {vs:List Vx} {m:Nat} {u:Vx} (h:vs[m]? =some u):pid vs (m+1)=u.id:=by
 show((vs[m]?).map (·.id)).getD 0=u.id
 rw[h];rfl
theorem eid_suc {es:List Ed} {m:Nat} {u:Ed} (h:es[m]? =some u):eid es (m+1)=u.id:=by
 show((es[m]?).map (·.id)).getD 0=u.id
 rw[h];rfl
theorem plI_cases (vs:List Vx) (id:Int):(hasV vs id=true∧ ¬plI vs id<0)∨(hasV vs id=false∧plI vs id<0):=by
 unfold plI
 cases hasV vs id
 ·exact .inr ⟨rfl,by simp⟩
 ·exact .inl ⟨rfl,by simp⟩
set_option maxRecDepth 100000 in
set_option maxHeartbeats 16000000 in
theorem r15right_any {w:World} {B vn vc en ec:Nat} {va ea:Option Addr} {p:PL} (hv:VsIn w B va vn p.vs) (he:EsIn w B ea en p.es) (hB:B≤w.heap.size) (hec:en≤ec):
  Calls Try.prog 22 #[.agg #[.slice va vn vc, .slice ea en ec]] w fun e w'=>e= .returned (.bool (rightR p))∧Below w.heap.size w w':=by
 have HL:=Lib.hid hv.1
 have HM:=Lib.hid he.1
 by_cases l1:512<vn
 ·rw[size_no (.inl (by rw[←hv.1];exact l1))]
  clear hv he
  go_enter Try.func22,Try.ntmps22
  go_wp2_with fail
  go_ret
  exact⟨rfl,below_alloc (Below.refl _ _)⟩
 by_cases l2:1024<en
 ·rw[size_no (.inr (by rw[←he.1];exact l2))]
  clear hv he
  go_enter Try.func22,Try.ntmps22
  go_wp2_with fail
  go_ret
  exact⟨rfl,below_alloc (Below.refl _ _)⟩
 have HV:=Lib.hid hv
 have HE:=Lib.hid he
 have HIN:=fun(q:Pt) W=>Lib.hid (r5in_any q W)
 clear hv he
 go_enter Try.func22,Try.ntmps22
 go_wp2_with fail
 first|refine wp_name (fun W hW=> ?_)|refine calls_name (fun W hW=> ?_)
 have HW:Hid (Below w.heap.size w W):=Lib.hid (by rw[←hW];repeat (first|exact Below.refl _ _|refine below_alloc ?_))
 have HWs:Hid (W.heap.size=w.heap.size+1):=Lib.hid (by rw[←hW];simp)
 have HBW:Hid (W.heap.size≤W.heap.size):=Lib.hid (by have:=HWs.out;omega)
 have HC:=fun(W1:World) (hb:Below (W.heap.size) W W1)=>Lib.hid (show W1.cell? ⟨w.heap.size,0,none⟩=some (.slice va vn vc)∧W1.cell? ⟨w.heap.size,1,none⟩=some (.slice ea en ec) from by have hs:=HWs.out;refine⟨?_, ?_⟩<;>(refine(hb.cell (by dsimp only;omega)).trans ?_;rw[←hW];clear hW;go_simp))
 have HB:=Lib.hid (Below.refl (W.heap.size) W)
 clear hW
 have HZ:=fun(W1:World) (hb:W.heap.size≤W1.heap.size)=>Lib.hid (show w.heap.size<W1.heap.size from by have:=HWs.out;omega)
 obtain⟨qx0,qx1⟩:=(HC _ HB.out).out
 have rx0:=(HZ _ HB.out.size).out
 go_wp2_with fail
 clear qx0 qx1 rx0
 go_loopw [3] (fun v wr=> ∃k:Nat,k≤vn∧v= .int .i64 k∧(∀j u,j<k→p.vs[j]? =some u→VOk p.vs j u)∧Below W.heap.size W wr) (fun v _=>vn - (intOf v).toNat)
 case atStart=>exact⟨0,Nat.zero_le _,rfl,fun j u hj=>absurd hj (by omega),HB.out⟩
 case round=>
  clear HB
  obtain⟨k,hk,rfl,hall,hb⟩:=hrel
  obtain⟨wq,rfl⟩: ∃x:World,x=wr:=⟨_,rfl⟩
  have HB:=Lib.hid hb
  have HA:=Lib.hid hall
  clear hb hall
  obtain⟨qx0,qx1⟩:=(HC _ HB.out).out
  have rx0:=(HZ _ HB.out.size).out
  have HX:=Lib.hid (HW.out.trans (HB.out.mono HW.out.size))
  by_cases hlt:k<vn
  ·skip
   obtain⟨vb,off,rfl,hvb,hcell⟩:=HV.out.row (by omega)
   have HCV:=fun(W1:World) (hb:Below w.heap.size w W1) (i:Nat) (u:Vx) (hi:p.vs[i]? =some u)=>Lib.hid (hcell W1 (hb.mono hB) i u hi)
   clear hcell
   obtain⟨v,hv⟩: ∃v,p.vs[k]? =some v:=⟨_,List.getElem?_eq_getElem (by have:=HL.out;omega)⟩
   have HVK:=Lib.hid hv
   clear hv
   obtain⟨e0,e1,e2⟩:=(HCV _ HX.out k v HVK.out).out
   go_wp2_with fail
   first|refine wp_name (fun W2 hW2=> ?_)|refine calls_name (fun W2 hW2=> ?_)
   have HW2:Hid (Below wq.heap.size wq W2):=Lib.hid (by rw[←hW2];repeat (first|exact Below.refl _ _|refine below_alloc ?_))
   have HWs2:Hid (W2.heap.size=wq.heap.size+1):=Lib.hid (by rw[←hW2];simp)
   have HBW2:Hid (W2.heap.size≤W2.heap.size):=Lib.hid (by have:=HWs2.out;omega)
   have HC2:=fun(W1:World) (hb:Below (W2.heap.size) W2 W1)=>Lib.hid (show W1.cell? ⟨w.heap.size,0,none⟩=some (.slice (some ⟨vb,off,none⟩) vn vc)∧W1.cell? ⟨w.heap.size,1,none⟩=some (.slice ea en ec)∧W1.cell? ⟨wq.heap.size,0,none⟩=some (.int .i64 v.id)∧W1.cell? ⟨wq.heap.size,1,none⟩=some (.int .i64 v.at_.x)∧W1.cell? ⟨wq.heap.size,2,none⟩=some (.int .i64 v.at_.y) from by have ho:=(HC W1 (in_of HB.out HW2.out hb (Nat.le_trans HBW.out HB.out.size) (by have h1:=HBW.out;have h2:=HB.out.size;have h3:=HW2.out.size;have h4:=HWs2.out;omega))).out;have hs:=HWs2.out;have z1:=HWs.out;have z2:=HB.out.size;refine⟨ho.1,ho.2, ?_, ?_, ?_⟩<;>(refine(hb.cell (by dsimp only;omega)).trans ?_;rw[←hW2];clear hW2;go_simp))
   have HB2:=Lib.hid (Below.refl (W2.heap.size) W2)
   clear hW2
   have HZ2:=fun(W1:World) (hb:W2.heap.size≤W1.heap.size)=>Lib.hid (show w.heap.size<W1.heap.size∧wq.heap.size<W1.heap.size from by have o0:=(HZ _ HB.out.size).out;have h3:=HW2.out.size;have:=HWs2.out;refine⟨?_, ?_⟩<;>omega)
   clear qx0 qx1 rx0
   obtain⟨qx0,qx1,qx2,qx3,qx4⟩:=(HC2 _ HB2.out).out
   obtain⟨rx0,rx1⟩:=(HZ2 _ HB2.out.size).out
   have HX2:=Lib.hid (below_step HW2.out HX.out)
   clear e0 e1 e2
   have HIV:=HIN v.at_
   go_upto_region 7 with fail
   go_cut [3,55] (fun kv pv wx=>kv= .int .i64 k∧pv= .bool (badV p.vs k v)∧Below W2.heap.size W2 wx)
   case first=>
    have hbd:badV p.vs k v=((decide (v.id<1)||(decide (0<k)&&decide (v.id≤pid p.vs k)))|| !inB v.at_):=rfl
    generalize inB v.at_=z at hbd HIV
    rcases Nat.eq_zero_or_pos k with hk0|hk0
    ·have hk1: ¬(0:Int)<(k:Int):=by omega
     have hk2:decide (0<k)=false:=by simp;omega
     have hk3: ¬0<k:=by omega
     rw[hk2] at hbd
     clear hk0 hk2
     by_cases c1:v.id<1
     all_goals
      first|rw[decide_eq_true c1] at hbd|rw[decide_eq_false c1] at hbd
      refine wp_name (fun c4 hc4=> ?_)
      have HB2:=bnm HB2 HBW2 hc4
      skip
      clear hc4
      have xx:=fun(x:Later c4)=>(HC2 _ (bnl HB2 HBW2 x.2)).out
      simp only[forall_and] at xx
      obtain⟨xx0,xx1,xx2,xx3,xx4⟩:=xx
      refine wp_region_later (by kernel_rfl) (by kernel_rfl) ?_
      repeat (first|go_big_quiet_step (((go_at_call 23;with_reducible refine Later.call (HIV _).out)))|quiet_step (((go_at_call 23;with_reducible refine Later.call (HIV _).out))))
      refine wpQuiet_nil ?_
      intro w4 hw4
      have hb4:=later_below hw4
      clear hw4
      have HB2:=Lib.hid (bnl HB2 HBW2 hb4)
      clear xx0 xx1 xx2 xx3 xx4
      clear qx0 qx1 qx2 qx3 qx4 rx0 rx1
      obtain⟨qx0,qx1,qx2,qx3,qx4⟩:=(HC2 _ HB2.out).out
      skip
      clear hb4
      obtain⟨rx0,rx1⟩:=(HZ2 _ HB2.out.size).out
      go_wp2_with fail
      go_meet
      exact⟨by simp,by rw[hbd];simp,HB2.out⟩
    ·obtain⟨m,rfl⟩: ∃m,k=m+1:=⟨k - 1,by omega⟩
     obtain⟨u,hu⟩: ∃u,p.vs[m]? =some u:=⟨_,List.getElem?_eq_getElem (by have:=HL.out;omega)⟩
     have HUM:=Lib.hid hu
     rw[pid_suc hu] at hbd
     clear hu
     have hm1:m<vn:=by omega
     have hm2:(0:Int)<(m:Int)+1:=by omega
     by_cases c1:v.id<1
     case' neg=>by_cases c2:v.id≤u.id
     all_goals
      first|rw[decide_eq_true c1] at hbd|rw[decide_eq_false c1,decide_eq_true c2] at hbd|rw[decide_eq_false c1,decide_eq_false c2] at hbd
      refine wp_name (fun c5 hc5=> ?_)
      have HB2:=bnm HB2 HBW2 hc5
      have y9:=fun(x:Later c5)=>(HCV x.1 (HX2.out.trans ((HB2.out.trans (x.2.mono HB2.out.size)).mono HX2.out.size)) m u HUM.out).out.1
      clear hc5
      have xx:=fun(x:Later c5)=>(HC2 _ (bnl HB2 HBW2 x.2)).out
      simp only[forall_and] at xx
      obtain⟨xx0,xx1,xx2,xx3,xx4⟩:=xx
      refine wp_region_later (by kernel_rfl) (by kernel_rfl) ?_
      repeat (first|go_big_quiet_step (((go_at_call 23;with_reducible refine Later.call (HIV _).out)))|quiet_step (((go_at_call 23;with_reducible refine Later.call (HIV _).out))))
      refine wpQuiet_nil ?_
      intro w5 hw5
      have hb5:=later_below hw5
      clear hw5
      have HB2:=Lib.hid (bnl HB2 HBW2 hb5)
      clear xx0 xx1 xx2 xx3 xx4
      clear qx0 qx1 qx2 qx3 qx4 rx0 rx1
      obtain⟨qx0,qx1,qx2,qx3,qx4⟩:=(HC2 _ HB2.out).out
      skip
      clear hb5
      obtain⟨rx0,rx1⟩:=(HZ2 _ HB2.out.size).out
      go_wp2_with fail
      go_meet
      exact⟨by simp,by rw[hbd];simp,HB2.out⟩
   case rest=>
   obtain⟨rfl,rfl,hbx⟩:=hcut
   have HB2:=Lib.hid hbx
   clear hbx
   have HBO:=Lib.hid (HB.out.trans ((HW2.out.trans (HB2.out.mono HW2.out.size)).mono HB.out.size))
   cases hbad:badV p.vs k v
   ·have HBAD:=Lib.hid hbad
    clear hbad
    clear qx0 qx1 qx2 qx3 qx4 rx0 rx1
    obtain⟨qx0,qx1,qx2,qx3,qx4⟩:=(HC2 _ HB2.out).out
    obtain⟨rx0,rx1⟩:=(HZ2 _ HB2.out.size).out
    go_wp2_with fail
    clear qx0 qx1 qx2 qx3 qx4 rx0 rx1
    go_loopw [5] (fun z wi=> ∃j:Nat,j≤k∧z= .int .i64 j∧(∀i u,i<j→p.vs[i]? =some u→u.at_≠v.at_)∧Below W2.heap.size W2 wi) (fun z _=>k - (intOf z).toNat)
    case atStart=>exact⟨0,Nat.zero_le _,rfl,fun i u hi=>absurd hi (by omega),HB2.out⟩
    case round=>
     clear HB2 HBO
     obtain⟨j,hj,rfl,hmet,hb⟩:=hrel
     have HB2:=Lib.hid hb
     have HMT:=Lib.hid hmet
     clear hb hmet
     obtain⟨qx0,qx1,qx2,qx3,qx4⟩:=(HC2 _ HB2.out).out
     obtain⟨rx0,rx1⟩:=(HZ2 _ HB2.out.size).out
     have HX3:=Lib.hid (HX2.out.trans (HB2.out.mono HX2.out.size))
     by_cases hjk:j<k
     ·obtain⟨u,hu⟩: ∃u,p.vs[j]? =some u:=⟨_,List.getElem?_eq_getElem (by have:=HL.out;omega)⟩
      have HUJ:=Lib.hid hu
      clear hu
      have hjv:j<vn:=by omega
      cases heq:decide (u.at_=v.at_)
      ·have rq:=eq_pt_f heq
       have HEQ:=Lib.hid heq
       clear heq
       go_wp2_with fail
       refine wp_name (fun c8 hc8=> ?_)
       have HB2:=bnm HB2 HBW2 hc8
       have y8:=fun(x:Later c8)=>(HCV x.1 (HX2.out.trans ((HB2.out.trans (x.2.mono HB2.out.size)).mono HX2.out.size)) j u HUJ.out).out.2
       clear hc8
       have xx:=fun(x:Later c8)=>(HC2 _ (bnl HB2 HBW2 x.2)).out
       simp only[forall_and] at xx
       obtain⟨xx0,xx1,xx2,xx3,xx4⟩:=xx
       refine wp_region_later (by kernel_rfl) (by kernel_rfl) ?_
       repeat (first|go_big_quiet_step ((fail))|quiet_step ((fail)))
       refine wpQuiet_nil ?_
       intro w8 hw8
       have hb8:=later_below hw8
       clear hw8
       have HB2:=Lib.hid (bnl HB2 HBW2 hb8)
       clear xx0 xx1 xx2 xx3 xx4
       clear qx0 qx1 qx2 qx3 qx4 rx0 rx1
       obtain⟨qx0,qx1,qx2,qx3,qx4⟩:=(HC2 _ HB2.out).out
       skip
       clear hb8
       obtain⟨rx0,rx1⟩:=(HZ2 _ HB2.out.size).out
       go_wp2_with fail
       go_roundw
       case rel=>
        refine⟨j+1,by omega,by go_num,fun i x hi hx=> ?_,HB2.out⟩
        by_cases hij:i<j
        ·exact HMT.out i x hij hx
        ·obtain rfl:i=j:=by omega
         rw[HUJ.out] at hx
         injection hx with hx
         subst hx
         exact of_decide_eq_false HEQ.out
       case measure=>simp[intOf];omega
      ·have F:=Lib.hid (met_no HVK.out HUJ.out hjk (of_decide_eq_true heq))
       have rq:=eq_pt_t heq
       clear heq
       go_wp2_with fail
       refine wp_name (fun c9 hc9=> ?_)
       have HB2:=bnm HB2 HBW2 hc9
       have y8:=fun(x:Later c9)=>(HCV x.1 (HX2.out.trans ((HB2.out.trans (x.2.mono HB2.out.size)).mono HX2.out.size)) j u HUJ.out).out.2
       clear hc9
       have xx:=fun(x:Later c9)=>(HC2 _ (bnl HB2 HBW2 x.2)).out
       simp only[forall_and] at xx
       obtain⟨xx0,xx1,xx2,xx3,xx4⟩:=xx
       refine wp_region_later (by kernel_rfl) (by kernel_rfl) ?_
       repeat (first|go_big_quiet_step ((fail))|quiet_step ((fail)))
       refine wpQuiet_nil ?_
       intro w9 hw9
       have hb9:=later_below hw9
       clear hw9
       have HB2:=Lib.hid (bnl HB2 HBW2 hb9)
       clear xx0 xx1 xx2 xx3 xx4
       clear qx0 qx1 qx2 qx3 qx4 rx0 rx1
       obtain⟨qx0,qx1,qx2,qx3,qx4⟩:=(HC2 _ HB2.out).out
       skip
       clear hb9
       obtain⟨rx0,rx1⟩:=(HZ2 _ HB2.out.size).out
       go_wp2_with fail
       go_ret
       exact⟨by rw[F.out];rfl,HX2.out.trans (HB2.out.mono HX2.out.size)⟩
     ·have HOK:=Lib.hid (badV_ok HBAD.out (fun i u hi hu=>HMT.out i u (by omega) hu))
      have HBO:=Lib.hid (HB.out.trans ((HW2.out.trans (HB2.out.mono HW2.out.size)).mono HB.out.size))
      go_wp2_with fail
      go_roundw
      case rel=>
       refine⟨k+1,by omega,by go_num,fun i x hi hx=> ?_,HBO.out⟩
       by_cases hik:i<k
       ·exact HA.out i x hik hx
       ·obtain rfl:i=k:=by omega
        rw[HVK.out] at hx
        injection hx with hx
        subst hx
        exact HOK.out
      case measure=>simp[intOf];omega
   ·have F:=Lib.hid (badV_no HVK.out hbad)
    clear hbad
    clear qx0 qx1 qx2 qx3 qx4 rx0 rx1
    obtain⟨qx0,qx1,qx2,qx3,qx4⟩:=(HC2 _ HB2.out).out
    obtain⟨rx0,rx1⟩:=(HZ2 _ HB2.out.size).out
    go_wp2_with fail
    go_ret
    exact⟨by rw[F.out];rfl,HW.out.trans (HBO.out.mono HW.out.size)⟩
  ·have HVO:=Lib.hid (fun i v (h:p.vs[i]? =some v)=>HA.out i v (by have:=(List.getElem?_eq_some_iff.1 h).1;have:=HL.out;omega) h)
   clear HA
   have HVX:=fun(W1:World) (hb:Below w.heap.size w W1) (id:Int) (ea1:Option Addr)=>Lib.hid (r15vertex_any (w:=W1) (vc:=vc) (HV.out.below (hb.mono hB)) (Nat.le_trans hB hb.size) (by omega) (.slice ea1 en ec) ⟨_,_,_,rfl⟩ id)
   obtain⟨wo,rfl⟩: ∃x:World,x=wq:=⟨_,rfl⟩
   go_wp2_with fail
   clear qx0 qx1 rx0
   go_loopw [6] (fun v wr=> ∃n:Nat,n≤en∧v= .int .i64 n∧(∀j f,j<n→p.es[j]? =some f→ ∃A B,EOk p.vs p.es j f A B)∧Below W.heap.size W wr) (fun v _=>en - (intOf v).toNat)
   case atStart=>exact⟨0,Nat.zero_le _,rfl,fun j u hj=>absurd hj (by omega),HB.out⟩
   case round=>
    clear HB HX
    obtain⟨n,hn,rfl,hall,hb⟩:=hrel
    obtain⟨wq,rfl⟩: ∃x:World,x=wr:=⟨_,rfl⟩
    have HB:=Lib.hid hb
    have HA:=Lib.hid hall
    clear hb hall
    obtain⟨qx0,qx1⟩:=(HC _ HB.out).out
    have rx0:=(HZ _ HB.out.size).out
    have HX:=Lib.hid (HW.out.trans (HB.out.mono HW.out.size))
    by_cases hln:n<en
    ·obtain⟨eb,eoff,rfl,heb,hcell⟩:=HE.out.row (by omega)
     have HCE:=fun(W1:World) (hb:Below w.heap.size w W1) (i:Nat) (u:Ed) (hi:p.es[i]? =some u)=>Lib.hid (hcell W1 (hb.mono hB) i u hi)
     clear hcell
     obtain⟨e,he⟩: ∃e,p.es[n]? =some e:=⟨_,List.getElem?_eq_getElem (by have:=HM.out;omega)⟩
     have HEK:=Lib.hid he
     clear he
     obtain⟨e0,e1,e2⟩:=(HCE _ HX.out n e HEK.out).out
     go_wp2_with fail
     first|refine wp_name (fun W2 hW2=> ?_)|refine calls_name (fun W2 hW2=> ?_)
     have HW2:Hid (Below wq.heap.size wq W2):=Lib.hid (by rw[←hW2];repeat (first|exact Below.refl _ _|refine below_alloc ?_))
     have HWs2:Hid (W2.heap.size=wq.heap.size+1):=Lib.hid (by rw[←hW2];simp)
     have HBW2:Hid (W2.heap.size≤W2.heap.size):=Lib.hid (by have:=HWs2.out;omega)
     have HC2:=fun(W1:World) (hb:Below (W2.heap.size) W2 W1)=>Lib.hid (show W1.cell? ⟨w.heap.size,0,none⟩=some (.slice va vn vc)∧W1.cell? ⟨w.heap.size,1,none⟩=some (.slice (some ⟨eb,eoff,none⟩) en ec)∧W1.cell? ⟨wq.heap.size,0,none⟩=some (.int .i64 e.id)∧W1.cell? ⟨wq.heap.size,1,none⟩=some (.int .i64 e.a)∧W1.cell? ⟨wq.heap.size,2,none⟩=some (.int .i64 e.b) from by have ho:=(HC W1 (in_of HB.out HW2.out hb (Nat.le_trans HBW.out HB.out.size) (by have h1:=HBW.out;have h2:=HB.out.size;have h3:=HW2.out.size;have h4:=HWs2.out;omega))).out;have hs:=HWs2.out;have z1:=HWs.out;have z2:=HB.out.size;refine⟨ho.1,ho.2, ?_, ?_, ?_⟩<;>(refine(hb.cell (by dsimp only;omega)).trans ?_;rw[←hW2];clear hW2;go_simp))
     have HB2:=Lib.hid (Below.refl (W2.heap.size) W2)
     clear hW2
     have HZ2:=fun(W1:World) (hb:W2.heap.size≤W1.heap.size)=>Lib.hid (show w.heap.size<W1.heap.size∧wq.heap.size<W1.heap.size from by have o0:=(HZ _ HB.out.size).out;have h3:=HW2.out.size;have:=HWs2.out;refine⟨?_, ?_⟩<;>omega)
     clear qx0 qx1 rx0
     obtain⟨qx0,qx1,qx2,qx3,qx4⟩:=(HC2 _ HB2.out).out
     obtain⟨rx0,rx1⟩:=(HZ2 _ HB2.out.size).out
     have HX2:=Lib.hid (below_step HW2.out HX.out)
     clear e0 e1 e2
     have HVA:=fun(W1:World) (hb:Below w.heap.size w W1)=>HVX W1 hb e.a (some ⟨eb,eoff,none⟩)
     have HVB:=fun(W1:World) (hb:Below w.heap.size w W1)=>HVX W1 hb e.b (some ⟨eb,eoff,none⟩)
     go_upto_region 18 with fail
     go_cut [6,121] (fun kv pv wx=>kv= .int .i64 n∧pv= .bool (badE p.vs p.es n e)∧Below W2.heap.size W2 wx)
     case first=>
      have hbd:badE p.vs p.es n e=((((decide (e.id<1)||(decide (0<n)&&decide (e.id≤eid p.es n)))||decide (e.a=e.b))|| !hasV p.vs e.a)|| !hasV p.vs e.b):=rfl
      have hxa:=plI_cases p.vs e.a
      have hxb:=plI_cases p.vs e.b
      generalize plI p.vs e.a=xa at HVA hxa
      generalize plI p.vs e.b=xb at HVB hxb
      rcases Nat.eq_zero_or_pos n with hk0|hk0
      ·have hk1: ¬(0:Int)<(n:Int):=by omega
       have hk2:decide (0<n)=false:=by simp;omega
       have hk3: ¬0<n:=by omega
       rw[hk2] at hbd
       clear hk0 hk2
       by_cases c1:e.id<1
       case' pos=>rw[decide_eq_true c1] at hbd
       case' neg=>
        rw[decide_eq_false c1] at hbd
        cases c3:(e.a==e.b)
        case' true=>
         have c3':decide (e.a=e.b)=true:=by simpa using c3
         rw[c3'] at hbd
         clear c3' hxa hxb
        case' false=>
         have c3':decide (e.a=e.b)=false:=by simpa using c3
         rw[c3'] at hbd
         clear c3'
         rcases hxa with ⟨h1,h2⟩|⟨h1,h2⟩
         case' inr=>
          rw[h1] at hbd
          clear h1 hxb
         case' inl=>
          rw[h1] at hbd
          clear h1
          rcases hxb with ⟨h3,h4⟩|⟨h3,h4⟩
          all_goals
           rw[h3] at hbd
           clear h3
       all_goals
        refine wp_name (fun c13 hc13=> ?_)
        have HB2:=bnm HB2 HBW2 hc13
        have YB:=fun(x:Later c13)=>HX2.out.trans ((HB2.out.trans (x.2.mono HB2.out.size)).mono HX2.out.size);have HVAL:=fun(x:Later c13)=>HVA x.1 (YB x);have HVBL:=fun(x:Later c13)=>HVB x.1 (YB x);clear YB
        clear hc13
        have xx:=fun(x:Later c13)=>(HC2 _ (bnl HB2 HBW2 x.2)).out
        simp only[forall_and] at xx
        obtain⟨xx0,xx1,xx2,xx3,xx4⟩:=xx
        refine wp_region_later (by kernel_rfl) (by kernel_rfl) ?_
        repeat (first|go_big_quiet_step (((first|(go_at_call 53;with_reducible refine Later.call (HVAL _).out)|(go_at_call 53;with_reducible refine Later.call (HVBL _).out))))|quiet_step (((first|(go_at_call 53;with_reducible refine Later.call (HVAL _).out)|(go_at_call 53;with_reducible refine Later.call (HVBL _).out)))))
        refine wpQuiet_nil ?_
        intro w13 hw13
        have hb13:=later_below hw13
        clear hw13
        have HB2:=Lib.hid (bnl HB2 HBW2 hb13)
        clear xx0 xx1 xx2 xx3 xx4
        clear qx0 qx1 qx2 qx3 qx4 rx0 rx1
        obtain⟨qx0,qx1,qx2,qx3,qx4⟩:=(HC2 _ HB2.out).out
        skip
        clear hb13
        obtain⟨rx0,rx1⟩:=(HZ2 _ HB2.out.size).out
        go_wp2_with fail
        go_meet
        exact⟨by simp,by rw[hbd];simp,HB2.out⟩
      ·obtain⟨m,rfl⟩: ∃m,n=m+1:=⟨n - 1,by omega⟩
       obtain⟨u,hu⟩: ∃u,p.es[m]? =some u:=⟨_,List.getElem?_eq_getElem (by have:=HM.out;omega)⟩
       have HUM:=Lib.hid hu
       rw[eid_suc hu] at hbd
       clear hu
       have hm1:m<en:=by omega
       have hm2:(0:Int)<(m:Int)+1:=by omega
       by_cases c1:e.id<1
       case' pos=>rw[decide_eq_true c1] at hbd
       case' neg=>
        rw[decide_eq_false c1] at hbd
        by_cases c2:e.id≤u.id
        case' pos=>rw[decide_eq_true c2] at hbd
        case' neg=>
         rw[decide_eq_false c2] at hbd
         cases c3:(e.a==e.b)
         case' true=>
          have c3':decide (e.a=e.b)=true:=by simpa using c3
          rw[c3'] at hbd
          clear c3' hxa hxb
         case' false=>
          have c3':decide (e.a=e.b)=false:=by simpa using c3
          rw[c3'] at hbd
          clear c3'
          rcases hxa with ⟨h1,h2⟩|⟨h1,h2⟩
          case' inr=>
           rw[h1] at hbd
           clear h1 hxb
          case' inl=>
           rw[h1] at hbd
           clear h1
           rcases hxb with ⟨h3,h4⟩|⟨h3,h4⟩
           all_goals
            rw[h3] at hbd
            clear h3
       all_goals
        refine wp_name (fun c14 hc14=> ?_)
        have HB2:=bnm HB2 HBW2 hc14
        have YB:=fun(x:Later c14)=>HX2.out.trans ((HB2.out.trans (x.2.mono HB2.out.size)).mono HX2.out.size);have HVAL:=fun(x:Later c14)=>HVA x.1 (YB x);have HVBL:=fun(x:Later c14)=>HVB x.1 (YB x);have y9:=fun(x:Later c14)=>(HCE x.1 (YB x) m u HUM.out).out.1;clear YB
        clear hc14
        have xx:=fun(x:Later c14)=>(HC2 _ (bnl HB2 HBW2 x.2)).out
        simp only[forall_and] at xx
        obtain⟨xx0,xx1,xx2,xx3,xx4⟩:=xx
        refine wp_region_later (by kernel_rfl) (by kernel_rfl) ?_
        repeat (first|go_big_quiet_step (((first|(go_at_call 53;with_reducible refine Later.call (HVAL _).out)|(go_at_call 53;with_reducible refine Later.call (HVBL _).out))))|quiet_step (((first|(go_at_call 53;with_reducible refine Later.call (HVAL _).out)|(go_at_call 53;with_reducible refine Later.call (HVBL _).out)))))
        refine wpQuiet_nil ?_
        intro w14 hw14
        have hb14:=later_below hw14
        clear hw14
        have HB2:=Lib.hid (bnl HB2 HBW2 hb14)
        clear xx0 xx1 xx2 xx3 xx4
        clear qx0 qx1 qx2 qx3 qx4 rx0 rx1
        obtain⟨qx0,qx1,qx2,qx3,qx4⟩:=(HC2 _ HB2.out).out
        skip
        clear hb14
        obtain⟨rx0,rx1⟩:=(HZ2 _ HB2.out.size).out
        go_wp2_with fail
        go_meet
        exact⟨by simp,by rw[hbd];simp,HB2.out⟩
     case rest=>
     obtain⟨rfl,rfl,hbx⟩:=hcut
     have HB2:=Lib.hid hbx
     clear hbx
     have HBO:=Lib.hid (HB.out.trans ((HW2.out.trans (HB2.out.mono HW2.out.size)).mono HB.out.size))
     cases hbad:badE p.vs p.es n e
     ·have HBAD:=Lib.hid hbad
      have hE:=badE_has hbad
      have hnc:n≤ec:=by omega
      have HEI:=Lib.hid (EdIn.of HVO.out hE.1 hE.2.1 hE.2.2)
      clear hbad hE
      clear qx0 qx1 qx2 qx3 qx4 rx0 rx1
      obtain⟨qx0,qx1,qx2,qx3,qx4⟩:=(HC2 _ HB2.out).out
      obtain⟨rx0,rx1⟩:=(HZ2 _ HB2.out.size).out
      go_wp2_with fail
      clear qx0 qx1 qx2 qx3 qx4 rx0 rx1
      have HY:=fun(w':World) (t:Below wc.heap.size wc w')=>Lib.hid (show w'.cell? ⟨w.heap.size,0,none⟩=some (.slice va vn vc)∧w'.cell? ⟨w.heap.size,1,none⟩=some (.slice (some ⟨eb,eoff,none⟩) en ec) from(HC _ (HBO.out.trans (t.mono HBO.out.size))).out)
      have HS0:=Lib.hid (Below.refl wc.heap.size wc).drew
      refine wp_region_noPanic ?_
      refine wp_region_par3 8 8 (by kernel_rfl) (by kernel_rfl) (by simp) (by omega) (by kernel_rfl) (by kernel_rfl) (fun w':World=>Below wc.heap.size wc w') ?_
      refine par3_move (v:= ?_) 0 (by simp only[zga,zgb,zgc];rfl) (by kernel_rfl) (by rfl) ?_ (fun _ _ _ h=>h) ?_
      rotate_left
      ·(intro w9;go_simp;try with_reducible rfl)
      simp only[Act.put,zpa,zpb,zpc]
      refine par3_read (v:= ?_) 1 (by simp only[zga,zgb,zgc];rfl) (by kernel_rfl) (by rfl) HS0.out ?_ (fun _ _ _ h=>h) ?_
      rotate_left
      ·(intro w9 hSw;obtain⟨y0,y1⟩:=(HY w9 hSw).out;clear hSw;go_simp;try with_reducible rfl)
      simp only[Act.put,zpa,zpb,zpc]
      refine par3_move (v:= ?_) 2 (by simp only[zga,zgb,zgc];rfl) (by kernel_rfl) (by rfl) ?_ (fun _ _ _ h=>h) ?_
      rotate_left
      ·(intro w9;go_simp;try with_reducible rfl)
      simp only[Act.put,zpa,zpb,zpc]
      refine par3_read (v:= ?_) 3 (by simp only[zga,zgb,zgc];rfl) (by kernel_rfl) (by rfl) HS0.out ?_ (fun _ _ _ h=>h) ?_
      rotate_left
      ·(intro w9 hSw;obtain⟨y0,y1⟩:=(HY w9 hSw).out;clear hSw;go_simp;try with_reducible rfl)
      simp only[Act.put,zpa,zpb,zpc]
      refine par3_move (v:= ?_) 4 (by simp only[zga,zgb,zgc];rfl) (by kernel_rfl) (by rfl) ?_ (fun _ _ _ h=>h) ?_
      rotate_left
      ·(intro w9;go_simp;try with_reducible rfl)
      simp only[Act.put,zpa,zpb,zpc]
      refine par3_move (v:= ?_) 5 (by simp only[zga,zgb,zgc];rfl) (by kernel_rfl) (by rfl) ?_ (fun _ _ _ h=>h) ?_
      rotate_left
      ·(intro w9;go_simp;try with_reducible rfl)
      simp only[Act.put,zpa,zpb,zpc]
      refine par3_move (v:= ?_) 6 (by simp only[zga,zgb,zgc];rfl) (by kernel_rfl) (by rfl) ?_ (fun _ _ _ h=>h) ?_
      rotate_left
      ·(intro w9;go_simp;try with_reducible rfl)
      simp only[Act.put,zpa,zpb,zpc]
      refine par3_nm (fun W8 hW8=> ?_)
      rw[←hW8] at HS0
      clear hW8
      refine par3_one 7 (by simp only[zga,zgb,zgc];rfl) (by kernel_rfl) (by rfl) ?_
      refine owp_val (v:= ?_) (w1:= ?_) ?_ ?_
      rotate_left 2
      ·(go_simp;constructor<;>rfl)
      refine⟨fun s _=>s.alloc s.size _, ?_⟩
      simp only[Act.put,zpa,zpb,zpc]
      refine par3_tail _ (by simp only[List.drop_succ_cons,List.drop_zero];rfl) (by kernel_rfl) ?_
      go_wp2_with fail
      refine NoPanic.normal ?_
      go_upto_region 21 with fail
      have HB2:=Lib.hid (HB2.out.trans (HS0.out.mono HB2.out.size))
      first|refine wp_name (fun W3 hW3=> ?_)|refine calls_name (fun W3 hW3=> ?_)
      have HW3:Hid (Below W8.heap.size W8 W3):=Lib.hid (by rw[←hW3];repeat (first|exact Below.refl _ _|refine below_alloc ?_))
      have HWs3:Hid (W3.heap.size=W8.heap.size+1):=Lib.hid (by rw[←hW3];simp)
      have HBW3:Hid (W3.heap.size≤W3.heap.size):=Lib.hid (by have:=HWs3.out;omega)
      have HC3:=fun(W1:World) (hb:Below (W3.heap.size) W3 W1)=>Lib.hid (show W1.cell? ⟨w.heap.size,0,none⟩=some (.slice va vn vc)∧W1.cell? ⟨w.heap.size,1,none⟩=some (.slice (some ⟨eb,eoff,none⟩) en ec)∧W1.cell? ⟨wq.heap.size,0,none⟩=some (.int .i64 e.id)∧W1.cell? ⟨wq.heap.size,1,none⟩=some (.int .i64 e.a)∧W1.cell? ⟨wq.heap.size,2,none⟩=some (.int .i64 e.b)∧W1.cell? ⟨W8.heap.size,0,none⟩=some (.slice va vn vc)∧W1.cell? ⟨W8.heap.size,1,none⟩=some (.slice (some ⟨eb,eoff,none⟩) n ec) from by have ho:=(HC2 W1 (in_of HB2.out HW3.out hb (Nat.le_trans HBW2.out HB2.out.size) (by have h1:=HBW2.out;have h2:=HB2.out.size;have h3:=HW3.out.size;have h4:=HWs3.out;omega))).out;have hs:=HWs3.out;have z1:=HWs2.out;have z2:=HB2.out.size;refine⟨ho.1,ho.2.1,ho.2.2.1,ho.2.2.2.1,ho.2.2.2.2, ?_, ?_⟩<;>(refine(hb.cell (by dsimp only;omega)).trans ?_;rw[←hW3];clear hW3;go_simp))
      have HB3:=Lib.hid (Below.refl (W3.heap.size) W3)
      clear hW3
      have HZ3:=fun(W1:World) (hb:W3.heap.size≤W1.heap.size)=>Lib.hid (show w.heap.size<W1.heap.size∧wq.heap.size<W1.heap.size∧W8.heap.size<W1.heap.size from by obtain⟨o0,o1⟩:=(HZ2 _ HB2.out.size).out;have h3:=HW3.out.size;have:=HWs3.out;refine⟨?_, ?_, ?_⟩<;>omega)
      obtain⟨qx0,qx1,qx2,qx3,qx4,qx5,qx6⟩:=(HC3 _ HB3.out).out
      obtain⟨rx0,rx1,rx2⟩:=(HZ3 _ HB3.out.size).out
      have HX3:=Lib.hid (below_step HW3.out (HX2.out.trans (HB2.out.mono HX2.out.size)))
      clear HY HS0 HBO
      have HLK:=fun(W1:World) (hb:Below w.heap.size w W1)=>Lib.hid (r15links_any (w:=W1) (ec:=ec) ((HE.out.take hn).below (hb.mono hB)) (Nat.le_trans hB hb.size) (by omega) (.slice va vn vc) ⟨_,_,_,rfl⟩ e.a e.b)
      have HAA:=fun(W1:World) (hb:Below w.heap.size w W1)=>Lib.hid (r15at_any (w:=W1) (vc:=vc) (HV.out.below (hb.mono hB)) (Nat.le_trans hB hb.size) (by omega) (.slice (some ⟨eb,eoff,none⟩) en ec) ⟨_,_,_,rfl⟩ e.a HEI.out.va)
      have HAB:=fun(W1:World) (hb:Below w.heap.size w W1)=>Lib.hid (r15at_any (w:=W1) (vc:=vc) (HV.out.below (hb.mono hB)) (Nat.le_trans hB hb.size) (by omega) (.slice (some ⟨eb,eoff,none⟩) en ec) ⟨_,_,_,rfl⟩ e.b HEI.out.vb)
      have HON:=fun(W1:World) (hb:Below w.heap.size w W1)=>Lib.hid (r15on_any (w:=W1) (vc:=vc) (HV.out.below (hb.mono hB)) (Nat.le_trans hB hb.size) (by omega) (.slice (some ⟨eb,eoff,none⟩) en ec) ⟨_,_,_,rfl⟩ (findV p.vs e.a).at_ (findV p.vs e.b).at_ (fun v hv=>by
       obtain⟨i,hi⟩:=List.mem_iff_getElem?.1 hv
       exact(HVO.out i v hi).inr) HEI.out.ia HEI.out.ib)
      have HME:=fun(W1:World) (hb:Below w.heap.size w W1)=>Lib.hid (r15meets_any (w:=W1) (vc:=vc) (ec:=ec) (HV.out.below (hb.mono hB)) (HE.out.below (hb.mono hB)) (Nat.le_trans hB hb.size) (by omega) (by omega) (findV p.vs e.a).at_ (findV p.vs e.b).at_ HEI.out.ia HEI.out.ib HEI.out.ne (n:=n) hn (fun i f hi hf=>by
       obtain⟨A,B,ho⟩:=HA.out i f hi hf
       exact EdIn.of HVO.out (hasV_iff.2 ⟨A,ho.pa⟩) (hasV_iff.2 ⟨B,ho.pb⟩) ho.ab))
      go_cut [6,159] (fun kv pv wx=>kv= .int .i64 n∧pv= .bool (badW p.vs p.es n e)∧Below W3.heap.size W3 wx)
      case first=>
       have hbd:badW p.vs p.es n e=(((p.es.take n).any (linkB e.a e.b)||p.vs.any fun v=>onB v.at_ (findV p.vs e.a).at_ (findV p.vs e.b).at_)||(p.es.take n).any fun f=>meetB (findV p.vs e.a).at_ (findV p.vs e.b).at_ (findV p.vs f.a).at_ (findV p.vs f.b).at_):=rfl
       obtain⟨L,hL⟩: ∃x,x=(p.es.take n).any (linkB e.a e.b):=⟨_,rfl⟩
       obtain⟨O,hO⟩: ∃x,x=p.vs.any fun v=>onB v.at_ (findV p.vs e.a).at_ (findV p.vs e.b).at_:=⟨_,rfl⟩
       obtain⟨M,hM⟩: ∃x,x=(p.es.take n).any fun f=>meetB (findV p.vs e.a).at_ (findV p.vs e.b).at_ (findV p.vs f.a).at_ (findV p.vs f.b).at_:=⟨_,rfl⟩
       rw[←hL] at HLK hbd
       rw[←hO] at HON hbd
       rw[←hM] at HME hbd
       clear hL hO hM HEI
       generalize (findV p.vs e.a).at_=A at HAA HON HME
       generalize (findV p.vs e.b).at_=D at HAB HON HME
       cases L
       case' false=>cases O
       all_goals
        refine wp_name (fun c17 hc17=> ?_)
        have HB3:=bnm HB3 HBW3 hc17
        have YB:=fun(x:Later c17)=>HX3.out.trans ((HB3.out.trans (x.2.mono HB3.out.size)).mono HX3.out.size);have HLKL:=fun(x:Later c17)=>HLK x.1 (YB x);have HAAL:=fun(x:Later c17)=>HAA x.1 (YB x);have HABL:=fun(x:Later c17)=>HAB x.1 (YB x);have HONL:=fun(x:Later c17)=>HON x.1 (YB x);have HMEL:=fun(x:Later c17)=>HME x.1 (YB x);clear YB
        clear hc17
        have xx:=fun(x:Later c17)=>(HC3 _ (bnl HB3 HBW3 x.2)).out
        simp only[forall_and] at xx
        obtain⟨xx0,xx1,xx2,xx3,xx4,xx5,xx6⟩:=xx
        refine wp_region_later (by kernel_rfl) (by kernel_rfl) ?_
        repeat (first|go_big_quiet_step (((first|(go_at_call 54;with_reducible refine Later.call (HLKL _).out)|(go_at_call 26;with_reducible refine Later.call (HAAL _).out)|(go_at_call 26;with_reducible refine Later.call (HABL _).out)|(go_at_call 55;with_reducible refine Later.call (HONL _).out)|(go_at_call 56;with_reducible refine Later.call (HMEL _).out))))|quiet_step (((first|(go_at_call 54;with_reducible refine Later.call (HLKL _).out)|(go_at_call 26;with_reducible refine Later.call (HAAL _).out)|(go_at_call 26;with_reducible refine Later.call (HABL _).out)|(go_at_call 55;with_reducible refine Later.call (HONL _).out)|(go_at_call 56;with_reducible refine Later.call (HMEL _).out)))))
        refine wpQuiet_nil ?_
        intro w17 hw17
        have hb17:=later_below hw17
        clear hw17
        have HB3:=Lib.hid (bnl HB3 HBW3 hb17)
        clear xx0 xx1 xx2 xx3 xx4 xx5 xx6
        clear qx0 qx1 qx2 qx3 qx4 qx5 qx6 rx0 rx1 rx2
        obtain⟨qx0,qx1,qx2,qx3,qx4,qx5,qx6⟩:=(HC3 _ HB3.out).out
        skip
        clear hb17
        obtain⟨rx0,rx1,rx2⟩:=(HZ3 _ HB3.out.size).out
        go_wp2_with fail
        go_meet
        exact⟨by simp,by rw[hbd];simp,HB3.out⟩
      case rest=>
      obtain⟨rfl,rfl,hbx⟩:=hcut
      have HB3:=Lib.hid hbx
      clear hbx
      have hb3:=HW3.out.trans (HB3.out.mono HW3.out.size)
      have hb2:=HB2.out.trans (hb3.mono HB2.out.size)
      have HBO:=Lib.hid (HB.out.trans ((HW2.out.trans (hb2.mono HW2.out.size)).mono HB.out.size))
      clear hb3 hb2
      clear qx0 qx1 qx2 qx3 qx4 qx5 qx6 rx0 rx1 rx2
      obtain⟨qx0,qx1,qx2,qx3,qx4,qx5,qx6⟩:=(HC3 _ HB3.out).out
      obtain⟨rx0,rx1,rx2⟩:=(HZ3 _ HB3.out.size).out
      cases hbw:badW p.vs p.es n e
      ·have HOK:=Lib.hid (badE_ok HBAD.out hbw)
       clear hbw
       go_wp2_with fail
       go_roundw
       case rel=>
        refine⟨n+1,by omega,by go_num,fun i x hi hx=> ?_,HBO.out⟩
        by_cases hik:i<n
        ·exact HA.out i x hik hx
        ·obtain rfl:i=n:=by omega
         rw[HEK.out] at hx
         injection hx with hx
         subst hx
         exact HOK.out
       case measure=>simp[intOf];omega
      ·have F:=Lib.hid (badW_no HEK.out hbw)
       clear hbw
       go_wp2_with fail
       go_ret
       exact⟨by rw[F.out];rfl,HW.out.trans (HBO.out.mono HW.out.size)⟩
     ·have F:=Lib.hid (badE_no HEK.out hbad)
      clear hbad
      clear qx0 qx1 qx2 qx3 qx4 rx0 rx1
      obtain⟨qx0,qx1,qx2,qx3,qx4⟩:=(HC2 _ HB2.out).out
      obtain⟨rx0,rx1⟩:=(HZ2 _ HB2.out.size).out
      go_wp2_with fail
      go_ret
      exact⟨by rw[F.out];rfl,HW.out.trans (HBO.out.mono HW.out.size)⟩
    ·have F:=Lib.hid (show rightR p=true from rightR_iff.2 ⟨by have:=HL.out;omega,by have:=HM.out;omega,HVO.out,fun i x hx=>HA.out i x (by have:=(List.getElem?_eq_some_iff.1 hx).1;have:=HM.out;omega) hx⟩)
     go_wp2_with fail
     go_ret
     exact⟨by rw[F.out];rfl,HX.out⟩
end Go.Proofs.Ythopjhifepijiaa
namespace Go.Proofs.Ythopjhifepijiaa
open Go.RowKit
open Go.Maps (Keyed)
set_option maxRecDepth 100000 in
set_option maxHeartbeats 1000000 in
theorem tplanE (a b c:Int) (f:Value) (hf: ∃x n c,f= .slice x n c) (w:World):Calls Try.prog 32 #[.agg #[.int .i64 a, .int .i64 b, .int .i64 c, .slice none 0 0, .slice none 0 0,f]] w fun e w'=>e= .returned (.agg #[.slice none 0 0, .slice none 0 0])∧Below w.heap.size w w':=by
 obtain⟨x,n,k,rfl⟩:=hf
 go_enter Try.func32,Try.ntmps32
 go_wp2_with fail
 refine wp_loop_rounds 1 ?_
 rw[rounds_succ]
 go_wp2_with fail
 refine wp_loop_rounds 1 ?_
 rw[rounds_succ]
 go_wp2_with fail
 refine bodyPost_ret (v:= .agg #[.slice none 0 0, .slice none 0 0]) (by simp[results,Try.results32,go_sem]) rfl ⟨rfl, ?_⟩
 repeat (first|exact Below.refl _ _|refine below_alloc ?_|refine Below.setCell ?_ (by simp) _)
set_option maxRecDepth 100000 in
theorem lastN (n:Int) (w:World) (h:n<0) (f:Value) (hf: ∃x n c,f= .slice x n c):Calls Try.prog 91 #[.int .i64 n,f] w fun e w'=>e= .returned (.bool false)∧Below w.heap.size w w':=by
 obtain⟨x,k,c,rfl⟩:=hf
 go_enter Try.func91,Try.ntmps91
 go_wp2_with fail
 go_ret
 exact⟨rfl,Below.refl _ _⟩
set_option maxRecDepth 100000 in
theorem last0 (w:World):Calls Try.prog 91 #[.int .i64 0, .slice none 0 0] w fun e w'=>e= .returned (.bool true)∧Below w.heap.size w w':=by
 go_enter Try.func91,Try.ntmps91
 go_wp2_with fail
 go_ret
 exact⟨rfl,Below.refl _ _⟩
set_option maxRecDepth 100000 in
theorem last1 (w:World) (g c:Nat) (h:w.cell? ⟨g,0,none⟩=some (.int .i64 0)):Calls Try.prog 91 #[.int .i64 0, .slice (some ⟨g,0,none⟩) 1 c] w fun e w'=>e= .returned (.bool true)∧Below w.heap.size w w':=by
 go_enter Try.func91,Try.ntmps91
 go_wp2_with fail
 go_ret
 exact⟨rfl,Below.refl _ _⟩
end Go.Proofs.Ythopjhifepijiaa
namespace Go.Proofs.Ythopjhifepijiaa
open Go.RowKit
open Go.Maps (Keyed)
set_option maxRecDepth 100000 in
set_option maxHeartbeats 2000000 in
theorem numbersE (lf:Int) (hl:lf=0∨lf= -1) (fb c:Nat) (w:World) (h0:w.cell? ⟨fb,0,none⟩=some (.int .i64 0)) (h1:w.cell? ⟨fb,1,none⟩=some (.int .i64 0)) (hb:fb<w.heap.size):
  Calls Try.prog 65 #[.agg #[.int .i64 0, .int .i64 0, .int .i64 lf, .slice none 0 0, .slice none 0 0, .slice (some ⟨fb,0,none⟩) 1 c]] w fun e w'=>e= .returned (.bool (decide (lf=0)))∧Below w.heap.size w w':=by
 have H0:=Lib.hid h0
 have H1:=Lib.hid h1
 have HLF:=Lib.hid hl
 clear h0 h1 hl
 go_enter Try.func65,Try.ntmps65
 go_wp2_with fail
 first|refine wp_name (fun W hW=> ?_)|refine calls_name (fun W hW=> ?_)
 have HW:Hid (Below w.heap.size w W):=Lib.hid (by rw[←hW];repeat (first|exact Below.refl _ _|refine below_alloc ?_))
 have HWs:Hid (W.heap.size=w.heap.size+1):=Lib.hid (by rw[←hW];simp)
 have HBW:Hid (W.heap.size≤W.heap.size):=Lib.hid (by have:=HWs.out;omega)
 have HC:=fun(W1:World) (hb:Below (W.heap.size) W W1)=>Lib.hid (show W1.cell? ⟨w.heap.size,0,none⟩=some (.int .i64 0)∧W1.cell? ⟨w.heap.size,1,none⟩=some (.int .i64 0)∧W1.cell? ⟨w.heap.size,2,none⟩=some (.int .i64 lf)∧W1.cell? ⟨w.heap.size,3,none⟩=some (.slice none 0 0)∧W1.cell? ⟨w.heap.size,4,none⟩=some (.slice none 0 0)∧W1.cell? ⟨w.heap.size,5,none⟩=some (.slice (some ⟨fb,0,none⟩) 1 c) from by have hs:=HWs.out;refine⟨?_, ?_, ?_, ?_, ?_, ?_⟩<;>(refine(hb.cell (by dsimp only;omega)).trans ?_;rw[←hW];clear hW;go_simp))
 have HB:=Lib.hid (Below.refl (W.heap.size) W)
 clear hW
 have HZ:=fun(W1:World) (hb:W.heap.size≤W1.heap.size)=>Lib.hid (show w.heap.size<W1.heap.size from by have:=HWs.out;omega)
 obtain⟨qx0,qx1,qx2,qx3,qx4,qx5⟩:=(HC _ HB.out).out
 have rx0:=(HZ _ HB.out.size).out
 have rx0_0:=Nat.lt_succ_of_lt rx0
 have rx0_1:=Nat.lt_succ_of_lt rx0_0
 have rx0_2:=Nat.lt_succ_of_lt rx0_1
 have rx0_3:=Nat.lt_succ_of_lt rx0_2
 have f0:=(HW.out.cell (p:=⟨fb,0,none⟩) hb).trans H0.out
 have f1:=(HW.out.cell (p:=⟨fb,1,none⟩) hb).trans H1.out
 refine wp_loop_rounds 1 ?_
 rw[rounds_succ]
 go_wp2_with fail
 refine wp_loop_rounds 1 ?_
 rw[rounds_succ]
 go_wp2_with fail
 refine wp_loop_rounds 2 ?_
 rw[rounds_succ]
 go_wp2_with fail
 go_quiet (fail)
 go_wp2_with fail
 rw[rounds_succ]
 refine wp_name (fun W3 hW3=> ?_)
 have HB:=Lib.hid (show Below W.heap.size W W3 by
  rw[←hW3]
  exact Below.drew (Below.alloc (Below.alloc (below_drewN (Below.alloc HB.out (Nat.le_refl _) _) _) (by simp) _) (by simp;omega) _))
 have g0:W3.cell? ⟨W.heap.size+1+1,0,none⟩=some (.int .i64 0):=by
  rw[←hW3];clear hW3;go_simp;rw[Array.getElem?_append_left (by simp)];rfl
 have HG0:=Lib.hid g0
 have HGL:Hid (W.heap.size+1+1<W3.heap.size):=Lib.hid (by rw[←hW3];simp)
 clear hW3 g0
 clear qx0 qx1 qx2 qx3 qx4 qx5 rx0 rx0_0 rx0_1 rx0_2 rx0_3
 obtain⟨qx0,qx1,qx2,qx3,qx4,qx5⟩:=(HC _ HB.out).out
 have rx0:=(HZ _ HB.out.size).out
 go_wp2_with fail
 refine(last0 _).mono ?_
 rintro e w3 ⟨rfl,hb3⟩
 have HB:=bnx HB HBW hb3
 clear qx0 qx1 qx2 qx3 qx4 qx5 rx0
 obtain⟨qx0,qx1,qx2,qx3,qx4,qx5⟩:=(HC _ HB.out).out
 have HG0:=Lib.hid ((hb3.cell (p:=⟨W.heap.size+1+1,0,none⟩) HGL.out).trans HG0.out);have HGL:=Lib.hid (Nat.lt_of_lt_of_le HGL.out hb3.size)
 clear hb3
 have rx0:=(HZ _ HB.out.size).out
 go_wp2_with fail
 refine(last0 _).mono ?_
 rintro e w4 ⟨rfl,hb4⟩
 have HB:=bnx HB HBW hb4
 clear qx0 qx1 qx2 qx3 qx4 qx5 rx0
 obtain⟨qx0,qx1,qx2,qx3,qx4,qx5⟩:=(HC _ HB.out).out
 have HG0:=Lib.hid ((hb4.cell (p:=⟨W.heap.size+1+1,0,none⟩) HGL.out).trans HG0.out);have HGL:=Lib.hid (Nat.lt_of_lt_of_le HGL.out hb4.size)
 clear hb4
 have rx0:=(HZ _ HB.out.size).out
 go_wp2_with fail
 rcases HLF.out with rfl|rfl
 ·refine(last1 _ _ _ HG0.out).mono ?_
  rintro e w5 ⟨rfl,hb5⟩
  have HB:=bnx HB HBW hb5
  clear qx0 qx1 qx2 qx3 qx4 qx5 rx0
  obtain⟨qx0,qx1,qx2,qx3,qx4,qx5⟩:=(HC _ HB.out).out
  clear hb5
  have rx0:=(HZ _ HB.out.size).out
  go_wp2_with fail
  go_ret
  exact⟨rfl,bfn HW HB⟩
 ·refine(lastN _ _ (by decide) _ ⟨_,_,_,rfl⟩).mono ?_
  rintro e w7 ⟨rfl,hb7⟩
  have HB:=bnx HB HBW hb7
  clear qx0 qx1 qx2 qx3 qx4 qx5 rx0
  obtain⟨qx0,qx1,qx2,qx3,qx4,qx5⟩:=(HC _ HB.out).out
  clear hb7
  have rx0:=(HZ _ HB.out.size).out
  go_wp2_with fail
  go_ret
  exact⟨rfl,bfn HW HB⟩
def FaceAt (w:World) (fb:Nat):Prop:=w.cell? ⟨fb,0,none⟩=some (.int .i64 0)∧w.cell? ⟨fb,1,none⟩=some (.int .i64 0)∧fb<w.heap.size
theorem FaceAt.belowB {w w':World} {fb B:Nat} (h:FaceAt w fb) (hb:Below B w w') (hl:fb<B):FaceAt w' fb:=
 ⟨(hb.cell (p:=⟨fb,0,none⟩) hl).trans h.1,(hb.cell (p:=⟨fb,1,none⟩) hl).trans h.2.1,Nat.lt_of_lt_of_le h.2.2 hb.size⟩
theorem FaceAt.below {w w':World} {fb:Nat} (h:FaceAt w fb) (hb:Below w.heap.size w w'):FaceAt w' fb:=
 ⟨(hb.cell (p:=⟨fb,0,none⟩) h.2.2).trans h.1,(hb.cell (p:=⟨fb,1,none⟩) h.2.2).trans h.2.1,Nat.lt_of_lt_of_le h.2.2 hb.size⟩
set_option maxRecDepth 100000 in
theorem oneE (f1 f2:Value) (w:World):Calls Try.prog 66 #[.agg #[.slice none 0 0, .slice none 0 0, .slice none 0 0], .int .i64 0,f1,f2] w fun e w'=>e= .returned (.bool true)∧Below w.heap.size w w':=by
 go_enter Try.func66,Try.ntmps66
 go_wp2_with fail
 first|refine wp_name (fun W hW=> ?_)|refine calls_name (fun W hW=> ?_)
 have HW:Hid (Below w.heap.size w W):=Lib.hid (by rw[←hW];repeat (first|exact Below.refl _ _|refine below_alloc ?_))
 have HWs:Hid (W.heap.size=w.heap.size+1+1):=Lib.hid (by rw[←hW];simp)
 have HBW:Hid (W.heap.size≤W.heap.size):=Lib.hid (by have:=HWs.out;omega)
 have HC:=fun(W1:World) (hb:Below (W.heap.size) W W1)=>Lib.hid (show W1.cell? ⟨w.heap.size,0,none⟩=some (.slice none 0 0)∧W1.cell? ⟨w.heap.size,1,none⟩=some (.slice none 0 0)∧W1.cell? ⟨w.heap.size,2,none⟩=some (.slice none 0 0)∧W1.cell? ⟨w.heap.size+1,0,none⟩=some (.slice none 0 0) from by have hs:=HWs.out;refine⟨?_, ?_, ?_, ?_⟩<;>(refine(hb.cell (by dsimp only;omega)).trans ?_;rw[←hW];clear hW;go_simp))
 have HB:=Lib.hid (Below.refl (W.heap.size) W)
 clear hW
 have HZ:=fun(W1:World) (hb:W.heap.size≤W1.heap.size)=>Lib.hid (show w.heap.size<W1.heap.size∧w.heap.size+1<W1.heap.size from by have:=HWs.out;refine⟨?_, ?_⟩<;>omega)
 obtain⟨qx0,qx1,qx2,qx3⟩:=(HC _ HB.out).out
 obtain⟨rx0,rx1⟩:=(HZ _ HB.out.size).out
 refine wp_loop_rounds 2 ?_
 rw[rounds_succ]
 go_wp2_with fail
 refine wp_loop_rounds 1 ?_
 rw[rounds_succ]
 go_wp2_with fail
 rw[rounds_succ]
 go_wp2_with fail
 refine wp_loop_rounds 1 ?_
 rw[rounds_succ]
 go_wp2_with fail
 go_ret
 exact⟨rfl,bfn HW HB⟩
set_option maxRecDepth 100000 in
set_option maxHeartbeats 2000000 in
theorem checkNo (fb c:Nat) (w:World) (hf:FaceAt w fb):
  Calls Try.prog 30 #[.agg #[.int .i64 0, .int .i64 0, .int .i64 (-1), .slice none 0 0, .slice none 0 0, .slice (some ⟨fb,0,none⟩) 1 c]] w fun e w'=>e= .returned (.int .i64 19)∧Below w.heap.size w w':=by
 have HF:=Lib.hid hf
 clear hf
 go_enter Try.func30,Try.ntmps30
 go_wp2_with fail
 first|refine wp_name (fun W hW=> ?_)|refine calls_name (fun W hW=> ?_)
 have HW:Hid (Below w.heap.size w W):=Lib.hid (by rw[←hW];repeat (first|exact Below.refl _ _|refine below_alloc ?_))
 have HWs:Hid (W.heap.size=w.heap.size+1):=Lib.hid (by rw[←hW];simp)
 have HBW:Hid (W.heap.size≤W.heap.size):=Lib.hid (by have:=HWs.out;omega)
 have HC:=fun(W1:World) (hb:Below (W.heap.size) W W1)=>Lib.hid (show W1.cell? ⟨w.heap.size,0,none⟩=some (.int .i64 0)∧W1.cell? ⟨w.heap.size,1,none⟩=some (.int .i64 0)∧W1.cell? ⟨w.heap.size,2,none⟩=some (.int .i64 (-1))∧W1.cell? ⟨w.heap.size,3,none⟩=some (.slice none 0 0)∧W1.cell? ⟨w.heap.size,4,none⟩=some (.slice none 0 0)∧W1.cell? ⟨w.heap.size,5,none⟩=some (.slice (some ⟨fb,0,none⟩) 1 c) from by have hs:=HWs.out;refine⟨?_, ?_, ?_, ?_, ?_, ?_⟩<;>(refine(hb.cell (by dsimp only;omega)).trans ?_;rw[←hW];clear hW;go_simp))
 have HB:=Lib.hid (Below.refl (W.heap.size) W)
 clear hW
 have HZ:=fun(W1:World) (hb:W.heap.size≤W1.heap.size)=>Lib.hid (show w.heap.size<W1.heap.size from by have:=HWs.out;omega)
 obtain⟨qx0,qx1,qx2,qx3,qx4,qx5⟩:=(HC _ HB.out).out
 have rx0:=(HZ _ HB.out.size).out
 have HF:=Lib.hid (HF.out.below HW.out)
 refine(tplanE _ _ _ _ ⟨_,_,_,rfl⟩ _).mono ?_
 rintro e wa ⟨rfl,hb12⟩
 have HB:=bnx HB HBW hb12
 clear qx0 qx1 qx2 qx3 qx4 qx5 rx0
 obtain⟨qx0,qx1,qx2,qx3,qx4,qx5⟩:=(HC _ HB.out).out
 have HF:=Lib.hid (HF.out.below hb12)
 clear hb12
 have rx0:=(HZ _ HB.out.size).out
 go_wp2_with fail
 first|refine wp_name (fun W2 hW2=> ?_)|refine calls_name (fun W2 hW2=> ?_)
 have HW2:Hid (Below wa.heap.size wa W2):=Lib.hid (by rw[←hW2];repeat (first|exact Below.refl _ _|refine below_alloc ?_))
 have HWs2:Hid (W2.heap.size=wa.heap.size+1):=Lib.hid (by rw[←hW2];simp)
 have HBW2:Hid (W2.heap.size≤W2.heap.size):=Lib.hid (by have:=HWs2.out;omega)
 have HC2:=fun(W1:World) (hb:Below (W2.heap.size) W2 W1)=>Lib.hid (show W1.cell? ⟨w.heap.size,0,none⟩=some (.int .i64 0)∧W1.cell? ⟨w.heap.size,1,none⟩=some (.int .i64 0)∧W1.cell? ⟨w.heap.size,2,none⟩=some (.int .i64 (-1))∧W1.cell? ⟨w.heap.size,3,none⟩=some (.slice none 0 0)∧W1.cell? ⟨w.heap.size,4,none⟩=some (.slice none 0 0)∧W1.cell? ⟨w.heap.size,5,none⟩=some (.slice (some ⟨fb,0,none⟩) 1 c)∧W1.cell? ⟨wa.heap.size,0,none⟩=some (.slice none 0 0)∧W1.cell? ⟨wa.heap.size,1,none⟩=some (.slice none 0 0) from by have ho:=(HC W1 (in_of HB.out HW2.out hb (Nat.le_trans HBW.out HB.out.size) (by have h1:=HBW.out;have h2:=HB.out.size;have h3:=HW2.out.size;have h4:=HWs2.out;omega))).out;have hs:=HWs2.out;have z1:=HWs.out;have z2:=HB.out.size;refine⟨ho.1,ho.2.1,ho.2.2.1,ho.2.2.2.1,ho.2.2.2.2.1,ho.2.2.2.2.2, ?_, ?_⟩<;>(refine(hb.cell (by dsimp only;omega)).trans ?_;rw[←hW2];clear hW2;go_simp))
 have HB2:=Lib.hid (Below.refl (W2.heap.size) W2)
 clear hW2
 have HZ2:=fun(W1:World) (hb:W2.heap.size≤W1.heap.size)=>Lib.hid (show w.heap.size<W1.heap.size∧wa.heap.size<W1.heap.size from by have o0:=(HZ _ HB.out.size).out;have h3:=HW2.out.size;have:=HWs2.out;refine⟨?_, ?_⟩<;>omega)
 clear qx0 qx1 qx2 qx3 qx4 qx5 rx0
 obtain⟨qx0,qx1,qx2,qx3,qx4,qx5,qx6,qx7⟩:=(HC2 _ HB2.out).out
 obtain⟨rx0,rx1⟩:=(HZ2 _ HB2.out.size).out
 have HF:=Lib.hid (HF.out.below HW2.out)
 refine(rightE _ _ _ _ _).mono ?_
 rintro e w14 ⟨rfl,hb14⟩
 have HB2:=bnx HB2 HBW2 hb14
 clear qx0 qx1 qx2 qx3 qx4 qx5 qx6 qx7 rx0 rx1
 obtain⟨qx0,qx1,qx2,qx3,qx4,qx5,qx6,qx7⟩:=(HC2 _ HB2.out).out
 have HF:=Lib.hid (HF.out.below hb14)
 clear hb14
 obtain⟨rx0,rx1⟩:=(HZ2 _ HB2.out.size).out
 go_wp2_with fail
 have HN:=fun(W1:World) (h:FaceAt W1 fb)=>Lib.hid (numbersE (-1) (.inr rfl) fb c W1 h.1 h.2.1 h.2.2)
 simp only[show decide ((-1:Int)=0)=false by decide] at HN
 refine((HN _ HF.out).out).mono ?_
 rintro e w15 ⟨rfl,hb15⟩
 have HB2:=bnx HB2 HBW2 hb15
 clear qx0 qx1 qx2 qx3 qx4 qx5 qx6 qx7 rx0 rx1
 obtain⟨qx0,qx1,qx2,qx3,qx4,qx5,qx6,qx7⟩:=(HC2 _ HB2.out).out
 clear hb15
 obtain⟨rx0,rx1⟩:=(HZ2 _ HB2.out.size).out
 go_wp2_with fail
 have HB:=Lib.hid (in_of HB.out HW2.out HB2.out (Nat.le_trans HBW.out HB.out.size) (by have h1:=HBW.out;have h2:=HB.out.size;have h3:=HW2.out.size;have h4:=HWs2.out;omega))
 clear qx0 qx1 qx2 qx3 qx4 qx5 qx6 qx7 rx0 rx1
 go_ret
 exact⟨rfl,bfn HW HB⟩
set_option maxRecDepth 100000 in
set_option maxHeartbeats 4000000 in
theorem checkYes (fb c:Nat) (w:World) (hf:FaceAt w fb):
  Calls Try.prog 30 #[.agg #[.int .i64 0, .int .i64 0, .int .i64 0, .slice none 0 0, .slice none 0 0, .slice (some ⟨fb,0,none⟩) 1 c]] w fun e w'=>e= .returned (.int .i64 0)∧Below w.heap.size w w':=by
 have hmm:= @run_makeMap Try.prog
 have HF:=Lib.hid hf
 clear hf
 go_enter Try.func30,Try.ntmps30
 go_wp2_with fail
 first|refine wp_name (fun W hW=> ?_)|refine calls_name (fun W hW=> ?_)
 have HW:Hid (Below w.heap.size w W):=Lib.hid (by rw[←hW];repeat (first|exact Below.refl _ _|refine below_alloc ?_))
 have HWs:Hid (W.heap.size=w.heap.size+1):=Lib.hid (by rw[←hW];simp)
 have HBW:Hid (W.heap.size≤W.heap.size):=Lib.hid (by have:=HWs.out;omega)
 have HC:=fun(W1:World) (hb:Below (W.heap.size) W W1)=>Lib.hid (show W1.cell? ⟨w.heap.size,0,none⟩=some (.int .i64 0)∧W1.cell? ⟨w.heap.size,1,none⟩=some (.int .i64 0)∧W1.cell? ⟨w.heap.size,2,none⟩=some (.int .i64 0)∧W1.cell? ⟨w.heap.size,3,none⟩=some (.slice none 0 0)∧W1.cell? ⟨w.heap.size,4,none⟩=some (.slice none 0 0)∧W1.cell? ⟨w.heap.size,5,none⟩=some (.slice (some ⟨fb,0,none⟩) 1 c) from by have hs:=HWs.out;refine⟨?_, ?_, ?_, ?_, ?_, ?_⟩<;>(refine(hb.cell (by dsimp only;omega)).trans ?_;rw[←hW];clear hW;go_simp))
 have HB:=Lib.hid (Below.refl (W.heap.size) W)
 clear hW
 have HZ:=fun(W1:World) (hb:W.heap.size≤W1.heap.size)=>Lib.hid (show w.heap.size<W1.heap.size from by have:=HWs.out;omega)
 obtain⟨qx0,qx1,qx2,qx3,qx4,qx5⟩:=(HC _ HB.out).out
 have rx0:=(HZ _ HB.out.size).out
 have HF:=Lib.hid (HF.out.below HW.out)
 refine(tplanE _ _ _ _ ⟨_,_,_,rfl⟩ _).mono ?_
 rintro e wa ⟨rfl,hb19⟩
 have HB:=bnx HB HBW hb19
 clear qx0 qx1 qx2 qx3 qx4 qx5 rx0
 obtain⟨qx0,qx1,qx2,qx3,qx4,qx5⟩:=(HC _ HB.out).out
 have HF:=Lib.hid (HF.out.below hb19)
 clear hb19
 have rx0:=(HZ _ HB.out.size).out
 go_wp2_with fail
 first|refine wp_name (fun W2 hW2=> ?_)|refine calls_name (fun W2 hW2=> ?_)
 have HW2:Hid (Below wa.heap.size wa W2):=Lib.hid (by rw[←hW2];repeat (first|exact Below.refl _ _|refine below_alloc ?_))
 have HWs2:Hid (W2.heap.size=wa.heap.size+1):=Lib.hid (by rw[←hW2];simp)
 have HBW2:Hid (W2.heap.size≤W2.heap.size):=Lib.hid (by have:=HWs2.out;omega)
 have HC2:=fun(W1:World) (hb:Below (W2.heap.size) W2 W1)=>Lib.hid (show W1.cell? ⟨w.heap.size,0,none⟩=some (.int .i64 0)∧W1.cell? ⟨w.heap.size,1,none⟩=some (.int .i64 0)∧W1.cell? ⟨w.heap.size,2,none⟩=some (.int .i64 0)∧W1.cell? ⟨w.heap.size,3,none⟩=some (.slice none 0 0)∧W1.cell? ⟨w.heap.size,4,none⟩=some (.slice none 0 0)∧W1.cell? ⟨w.heap.size,5,none⟩=some (.slice (some ⟨fb,0,none⟩) 1 c)∧W1.cell? ⟨wa.heap.size,0,none⟩=some (.slice none 0 0)∧W1.cell? ⟨wa.heap.size,1,none⟩=some (.slice none 0 0) from by have ho:=(HC W1 (in_of HB.out HW2.out hb (Nat.le_trans HBW.out HB.out.size) (by have h1:=HBW.out;have h2:=HB.out.size;have h3:=HW2.out.size;have h4:=HWs2.out;omega))).out;have hs:=HWs2.out;have z1:=HWs.out;have z2:=HB.out.size;refine⟨ho.1,ho.2.1,ho.2.2.1,ho.2.2.2.1,ho.2.2.2.2.1,ho.2.2.2.2.2, ?_, ?_⟩<;>(refine(hb.cell (by dsimp only;omega)).trans ?_;rw[←hW2];clear hW2;go_simp))
 have HB2:=Lib.hid (Below.refl (W2.heap.size) W2)
 clear hW2
 have HZ2:=fun(W1:World) (hb:W2.heap.size≤W1.heap.size)=>Lib.hid (show w.heap.size<W1.heap.size∧wa.heap.size<W1.heap.size from by have o0:=(HZ _ HB.out.size).out;have h3:=HW2.out.size;have:=HWs2.out;refine⟨?_, ?_⟩<;>omega)
 clear qx0 qx1 qx2 qx3 qx4 qx5 rx0
 obtain⟨qx0,qx1,qx2,qx3,qx4,qx5,qx6,qx7⟩:=(HC2 _ HB2.out).out
 obtain⟨rx0,rx1⟩:=(HZ2 _ HB2.out.size).out
 have HF:=Lib.hid (HF.out.below HW2.out)
 refine(rightE _ _ _ _ _).mono ?_
 rintro e w21 ⟨rfl,hb21⟩
 have HB2:=bnx HB2 HBW2 hb21
 clear qx0 qx1 qx2 qx3 qx4 qx5 qx6 qx7 rx0 rx1
 obtain⟨qx0,qx1,qx2,qx3,qx4,qx5,qx6,qx7⟩:=(HC2 _ HB2.out).out
 have HF:=Lib.hid (HF.out.below hb21)
 clear hb21
 obtain⟨rx0,rx1⟩:=(HZ2 _ HB2.out.size).out
 go_wp2_with fail
 have HN:=fun(W1:World) (h:FaceAt W1 fb)=>Lib.hid (numbersE 0 (.inl rfl) fb c W1 h.1 h.2.1 h.2.2)
 simp only[show decide ((0:Int)=0)=true by decide] at HN
 refine((HN _ HF.out).out).mono ?_
 rintro e w22 ⟨rfl,hb22⟩
 have HB2:=bnx HB2 HBW2 hb22
 clear qx0 qx1 qx2 qx3 qx4 qx5 qx6 qx7 rx0 rx1
 obtain⟨qx0,qx1,qx2,qx3,qx4,qx5,qx6,qx7⟩:=(HC2 _ HB2.out).out
 have HF:=Lib.hid (HF.out.below hb22)
 clear hb22
 obtain⟨rx0,rx1⟩:=(HZ2 _ HB2.out.size).out
 go_wp2_with fail
 refine(linksE _ _ _ _ _).mono ?_
 rintro e wl ⟨rfl,hb23⟩
 have HB2:=bnx HB2 HBW2 hb23
 clear qx0 qx1 qx2 qx3 qx4 qx5 qx6 qx7 rx0 rx1
 obtain⟨qx0,qx1,qx2,qx3,qx4,qx5,qx6,qx7⟩:=(HC2 _ HB2.out).out
 have HF:=Lib.hid (HF.out.below hb23)
 clear hb23
 obtain⟨rx0,rx1⟩:=(HZ2 _ HB2.out.size).out
 have rx0_0:=Nat.lt_succ_of_lt rx0
 have rx0_1:=Nat.lt_succ_of_lt rx0_0
 have rx0_2:=Nat.lt_succ_of_lt rx0_1
 have rx1_0:=Nat.lt_succ_of_lt rx1
 have rx1_1:=Nat.lt_succ_of_lt rx1_0
 have rx1_2:=Nat.lt_succ_of_lt rx1_1
 go_wp2_with fail
 refine wp_loop_rounds 1 ?_
 rw[rounds_succ]
 go_wp2_with fail
 refine wp_loop_rounds 1 ?_
 rw[rounds_succ]
 go_wp2_with fail
 have HFL:Hid (fb<wl.heap.size):=Lib.hid HF.out.2.2
 first|refine wp_name (fun W3 hW3=> ?_)|refine calls_name (fun W3 hW3=> ?_)
 have HW3:Hid (Below wl.heap.size wl W3):=Lib.hid (by rw[←hW3];repeat (first|exact Below.refl _ _|refine below_alloc ?_))
 have HWs3:Hid (W3.heap.size=wl.heap.size+1+1+1):=Lib.hid (by rw[←hW3];simp)
 have HBW3:Hid (wl.heap.size+1+1≤W3.heap.size):=Lib.hid (by have:=HWs3.out;omega)
 have HC3:=fun(W1:World) (hb:Below (wl.heap.size+1+1) W3 W1)=>Lib.hid (show W1.cell? ⟨w.heap.size,0,none⟩=some (.int .i64 0)∧W1.cell? ⟨w.heap.size,1,none⟩=some (.int .i64 0)∧W1.cell? ⟨w.heap.size,2,none⟩=some (.int .i64 0)∧W1.cell? ⟨w.heap.size,3,none⟩=some (.slice none 0 0)∧W1.cell? ⟨w.heap.size,4,none⟩=some (.slice none 0 0)∧W1.cell? ⟨w.heap.size,5,none⟩=some (.slice (some ⟨fb,0,none⟩) 1 c)∧W1.cell? ⟨wa.heap.size,0,none⟩=some (.slice none 0 0)∧W1.cell? ⟨wa.heap.size,1,none⟩=some (.slice none 0 0) from by have ho:=(HC2 W1 (in_of HB2.out HW3.out hb (Nat.le_trans HBW2.out HB2.out.size) (by have h1:=HBW2.out;have h2:=HB2.out.size;have h3:=HW3.out.size;have h4:=HWs3.out;omega))).out;exact ho)
 have HB3:=Lib.hid (Below.refl (wl.heap.size+1+1) W3)
 have HZ3:=fun(W1:World) (hb:W3.heap.size≤W1.heap.size)=>Lib.hid (show w.heap.size<W1.heap.size∧wa.heap.size<W1.heap.size from by obtain⟨o0,o1⟩:=(HZ2 _ HB2.out.size).out;have h3:=HW3.out.size;have:=HWs3.out;refine⟨?_, ?_⟩<;>omega)
 clear qx0 qx1 qx2 qx3 qx4 qx5 qx6 qx7 rx0 rx1 rx0_0 rx0_1 rx0_2 rx1_0 rx1_1 rx1_2
 obtain⟨qx0,qx1,qx2,qx3,qx4,qx5,qx6,qx7⟩:=(HC3 _ HB3.out).out
 obtain⟨rx0,rx1⟩:=(HZ3 _ HB3.out.size).out
 have HM:Hid (MapN W3 Try.prog 3 (wl.heap.size+1+1) 0 ekI evB (fun _=>none)):=Lib.hid (by
  have e:((wl.alloc (.map #[] 0)).alloc (.map #[] 0)).heap.size=wl.heap.size+1+1:=by simp
  have h1:=MapN.made ((wl.alloc (.map #[] 0)).alloc (.map #[] 0)) Try.prog 3 ekI evB
  rw[e] at h1
  rw[←hW3]
  exact h1)
 clear hW3
 have HF:=Lib.hid (HF.out.below HW3.out)
 have HFC:=fun(W1:World) (h:Below (wl.heap.size+1+1) W3 W1)=>Lib.hid (HF.out.belowB h (by have:=HFL.out;omega))
 refine(partsE _ _ _ _ _).mono ?_
 rintro e wp ⟨pb,rfl,hp1,hp2,hp3,hpb⟩
 have HB3:=Lib.hid (below_next HB3.out (Nat.le_trans HBW3.out HB3.out.size) hpb)
 have HM:=Lib.hid (HM.out.below hpb)
 obtain⟨pc0,pc1,pc2⟩:=hp3
 clear qx0 qx1 qx2 qx3 qx4 qx5 qx6 qx7 rx0 rx1
 obtain⟨qx0,qx1,qx2,qx3,qx4,qx5,qx6,qx7⟩:=(HC3 _ HB3.out).out
 obtain⟨rx0,rx1⟩:=(HZ3 _ HB3.out.size).out
 clear hpb hp1
 go_wp2_with fail
 refine wp_loop_rounds 2 ?_
 rw[rounds_succ]
 go_wp2_with fail
 have HM:=Lib.hid (HM.out.alloc (.cells #[.slice none 0 0, .slice none 0 0, .slice none 0 0] 41))
 have HK0:=Lib.hid (key_int 0 (by decide))
 refine(oneE _ _ _).mono ?_
 rintro e w26 ⟨rfl,hb26⟩
 have HB3:=bnx HB3 HBW3 hb26
 clear qx0 qx1 qx2 qx3 qx4 qx5 qx6 qx7 rx0 rx1
 obtain⟨qx0,qx1,qx2,qx3,qx4,qx5,qx6,qx7⟩:=(HC3 _ HB3.out).out
 have HM:=Lib.hid (HM.out.below hb26);have lk:=MapT.look HM.out.toT Try.keyInt Try.underlying144 (zeroBool _) (x:=(0:Int)) HK0.out;simp only[Option.map_none,Option.getD_none] at lk
 clear hb26
 obtain⟨rx0,rx1⟩:=(HZ3 _ HB3.out.size).out
 go_wp2_with (at_mapUpdate;refine wpList_update_N _ rfl _ _ _ 144 rfl 3 4 Try.keyInt Try.underlying144 (wl.heap.size+1+1) 0 ekI evB (fun _=>none) HM.out rfl (by decide) 0 _ rfl HK0.out (ekI_inj _) rfl true rfl ?_;intro w7 hm7 hg7;have HM7:=Lib.hid hm7;have HB3:=Lib.hid (HB3.out.grown hg7 (Nat.le_trans HBW3.out HB3.out.size) (fun k e=>by injection e with e;omega));have HF7:=HFC _ HB3.out;clear hm7 hg7 lk)
 clear qx0 qx1 qx2 qx3 qx4 qx5 qx6 qx7 rx0 rx1
 obtain⟨qx0,qx1,qx2,qx3,qx4,qx5,qx6,qx7⟩:=(HC3 _ HB3.out).out
 obtain⟨rx0,rx1⟩:=(HZ3 _ HB3.out.size).out
 have f0:=HF7.out.1
 have f1:=HF7.out.2.1
 have lk7:=MapT.look (MapT.alloc HM7.out.toT (.cells #[.int .i64 0, .int .i64 0] 83)) Try.keyInt Try.underlying144 (zeroBool _) (x:=(0:Int)) HK0.out
 have ln7:=fun ty=>MapN.len (MapN.alloc HM7.out (.cells #[.int .i64 0, .int .i64 0] 83)) Try.underlying144 ty
 simp only[updT,if_true,Option.map_some,Option.getD_some] at lk7
 rw[rounds_succ]
 go_wp2_with fail
 refine wp_loop_rounds 2 ?_
 rw[rounds_succ]
 go_wp2_with fail
 rw[rounds_succ]
 go_wp2_with fail
 have HB3:=Lib.hid (HB3.out.alloc (Nat.le_trans HBW3.out HB3.out.size) (.cells #[.int .i64 0, .int .i64 0] 83))
 have HB2:=Lib.hid (in_of HB2.out HW3.out HB3.out (Nat.le_trans HBW2.out HB2.out.size) (by have h1:=HBW2.out;have h2:=HB2.out.size;have h3:=HW3.out.size;have h4:=HWs3.out;omega))
 clear qx0 qx1 qx2 qx3 qx4 qx5 qx6 qx7 rx0 rx1
 have HB:=Lib.hid (in_of HB.out HW2.out HB2.out (Nat.le_trans HBW.out HB.out.size) (by have h1:=HBW.out;have h2:=HB.out.size;have h3:=HW2.out.size;have h4:=HWs2.out;omega))
 go_ret
 exact⟨rfl,bfn HW HB⟩
end Go.Proofs.Ythopjhifepijiaa
namespace Go.Proofs.Ythopjhifepijiaa
open Go.RowKit
set_option maxRecDepth 100000 in
set_option maxHeartbeats 2000000 in
theorem awake18_any (w:World):Calls Try.prog 28 #[] w fun e w'=>e= .returned (.bool true)∧Below w.heap.size w w':=by
 go_enter Try.func28,Try.ntmps28
 go_wp2_with fail
 refine(drawE _).mono ?_
 rintro e wd ⟨fb,c,rfl,h0,h1,h2,hb⟩
 have HD:=Lib.hid hb
 have hfl:=cell_lt h0
 have HF:=Lib.hid (show FaceAt wd fb from⟨h0,h1,hfl⟩)
 clear h0 h1 h2 hfl hb
 go_wp2_with fail
 first|refine wp_name (fun W hW=> ?_)|refine calls_name (fun W hW=> ?_)
 have HW:Hid (Below wd.heap.size wd W):=Lib.hid (by rw[←hW];repeat (first|exact Below.refl _ _|refine below_alloc ?_))
 have HWs:Hid (W.heap.size=wd.heap.size+1):=Lib.hid (by rw[←hW];simp)
 have HBW:Hid (W.heap.size≤W.heap.size):=Lib.hid (by have:=HWs.out;omega)
 have HC:=fun(W1:World) (hb:Below (W.heap.size) W W1)=>Lib.hid (show W1.cell? ⟨wd.heap.size,0,none⟩=some (.int .i64 0)∧W1.cell? ⟨wd.heap.size,1,none⟩=some (.int .i64 0)∧W1.cell? ⟨wd.heap.size,2,none⟩=some (.int .i64 0)∧W1.cell? ⟨wd.heap.size,3,none⟩=some (.slice none 0 0)∧W1.cell? ⟨wd.heap.size,4,none⟩=some (.slice none 0 0)∧W1.cell? ⟨wd.heap.size,5,none⟩=some (.slice (some ⟨fb,0,none⟩) 1 c) from by have hs:=HWs.out;refine⟨?_, ?_, ?_, ?_, ?_, ?_⟩<;>(refine(hb.cell (by dsimp only;omega)).trans ?_;rw[←hW];clear hW;go_simp))
 have HB:=Lib.hid (Below.refl (W.heap.size) W)
 have HZ:=fun(W1:World) (hb:W.heap.size≤W1.heap.size)=>Lib.hid (show wd.heap.size<W1.heap.size from by have:=HWs.out;omega)
 obtain⟨qx0,qx1,qx2,qx3,qx4,qx5⟩:=(HC _ HB.out).out
 have rx0:=(HZ _ HB.out.size).out
 have HFZ:=fun(W1:World) (hb:Below W.heap.size W W1)=>Lib.hid (show∀j,W1.frozen? ⟨wd.heap.size,j,none⟩=false from fun j=>(hb.frozen (p:=⟨wd.heap.size,j,none⟩) (show wd.heap.size<W.heap.size by have:=HWs.out;omega)).trans (by rw[←hW];clear hW;go_simp))
 clear hW
 have HFL:Hid (fb<wd.heap.size):=Lib.hid HF.out.2.2
 have HF:=Lib.hid (HF.out.below HW.out)
 refine(checkYes _ _ _ HF.out).mono ?_
 rintro e wc ⟨rfl,hb2⟩
 have HB:=bnx HB HBW hb2
 clear qx0 qx1 qx2 qx3 qx4 qx5 rx0
 obtain⟨qx0,qx1,qx2,qx3,qx4,qx5⟩:=(HC _ HB.out).out
 have HF:=Lib.hid (HF.out.below hb2)
 clear hb2
 have rx0:=(HZ _ HB.out.size).out
 have fz:=(HFZ _ HB.out).out
 go_wp2_with fail
 have hbs:Below wd.heap.size wc (wc.setCell ⟨wd.heap.size,2,none⟩ (.int .i64 (-1))):=(Below.refl _ _).setCell (by simp) _
 have HF:=Lib.hid (HF.out.belowB hbs HFL.out)
 have HS:=Lib.hid (below_step ((HW.out.trans (HB.out.mono HW.out.size)).trans hbs) HD.out)
 clear hbs
 refine(checkNo _ _ _ HF.out).mono ?_
 rintro e w9 ⟨rfl,hb9⟩
 have HE:=Lib.hid (below_step hb9 HS.out)
 clear hb9
 go_wp2_with fail
 go_ret
 exact⟨rfl,HE.out⟩
end Go.Proofs.Ythopjhifepijiaa
