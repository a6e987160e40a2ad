/- Lemmas on the way to the statement. -/
import Derived.Test.YthopjhifepijiaaJ15
set_option linter.unusedSimpArgs false
set_option linter.unusedVariables false
namespace Go.Proofs.Ythopjhifepijiaa
open Go.RowKit Go.Joins
theorem VsIn.row {w:World} {B:Nat} {a:Option Addr} {n:Nat} {l:List Vx} (h:VsIn w B a n l) (hn:0<n): ∃b off,a=some ⟨b,off,none⟩∧b<B∧ ∀w',Below B w w'→ ∀i v,l[i]? =some v→
  w'.cell? ⟨b,off+i*3,none⟩=some (.int .i64 v.id)∧w'.cell? ⟨b,off+i*3+1,none⟩=some (.int .i64 v.at_.x)∧w'.cell? ⟨b,off+i*3+1+1,none⟩=some (.int .i64 v.at_.y):=by
 obtain⟨h1,h2|⟨b,off,ha,hlt,hc⟩⟩:=h
 ·omega
 ·exact⟨b,off,ha,hlt,fun w' hb i v hv=>⟨(hb.cell (p:=⟨b,_,none⟩) hlt).trans (hc i v hv).1,(hb.cell (p:=⟨b,_,none⟩) hlt).trans (hc i v hv).2.1,(hb.cell (p:=⟨b,_,none⟩) hlt).trans (hc i v hv).2.2⟩⟩
theorem EsIn.row {w:World} {B:Nat} {a:Option Addr} {n:Nat} {l:List Ed} (h:EsIn w B a n l) (hn:0<n): ∃b off,a=some ⟨b,off,none⟩∧b<B∧ ∀w',Below B w w'→ ∀i v,l[i]? =some v→
  w'.cell? ⟨b,off+i*3,none⟩=some (.int .i64 v.id)∧w'.cell? ⟨b,off+i*3+1,none⟩=some (.int .i64 v.a)∧w'.cell? ⟨b,off+i*3+1+1,none⟩=some (.int .i64 v.b):=by
 obtain⟨h1,h2|⟨b,off,ha,hlt,hc⟩⟩:=h
 ·omega
 ·exact⟨b,off,ha,hlt,fun w' hb i v hv=>⟨(hb.cell (p:=⟨b,_,none⟩) hlt).trans (hc i v hv).1,(hb.cell (p:=⟨b,_,none⟩) hlt).trans (hc i v hv).2.1,(hb.cell (p:=⟨b,_,none⟩) hlt).trans (hc i v hv).2.2⟩⟩
theorem pid_suc {vs:List Vx} {m:Nat} {u:Vx} (h:vs[m]? =some u):pid vs (m+1)=u.id:=by
 show((vs[m]?).map (·.id)).getD 0=u.id
 rw[h];rfl
theorem eid_suc {es:List Ed} {m:Nat} {u:Ed} (h:es[m]? =some u):eid es (m+1)=u.id:=by
 show((es[m]?).map (·.id)).getD 0=u.id
 rw[h];rfl
theorem plI_cases (vs:List Vx) (id:Int):(hasV vs id=true∧ ¬plI vs id<0)∨(hasV vs id=false∧plI vs id<0):=by
 unfold plI
 cases hasV vs id
 ·exact .inr ⟨rfl,by simp⟩
 ·exact .inl ⟨rfl,by simp⟩
set_option maxRecDepth 100000 in
set_option maxHeartbeats 16000000 in
theorem r15right_any {w:World} {B vn vc en ec:Nat} {va ea:Option Addr} {p:PL} (hv:VsIn w B va vn p.vs) (he:EsIn w B ea en p.es) (hB:B≤w.heap.size) (hec:en≤ec):
  Calls Try.prog 22 #[.agg #[.slice va vn vc, .slice ea en ec]] w fun e w'=>e= .returned (.bool (rightR p))∧Below w.heap.size w w':=by
 have HL:=Lib.hid hv.1
 have HM:=Lib.hid he.1
 by_cases l1:512<vn
 ·rw[size_no (.inl (by rw[←hv.1];exact l1))]
  clear hv he
  go_enter Try.func22,Try.ntmps22
  go_wp2_with fail
  go_ret
  exact⟨rfl,below_alloc (Below.refl _ _)⟩
 by_cases l2:1024<en
 ·rw[size_no (.inr (by rw[←he.1];exact l2))]
  clear hv he
  go_enter Try.func22,Try.ntmps22
  go_wp2_with fail
  go_ret
  exact⟨rfl,below_alloc (Below.refl _ _)⟩
 have HV:=Lib.hid hv
 have HE:=Lib.hid he
 have HIN:=fun(q:Pt) W=>Lib.hid (r5in_any q W)
 clear hv he
 go_enter Try.func22,Try.ntmps22
 go_wp2_with fail
 first|refine wp_name (fun W hW=> ?_)|refine calls_name (fun W hW=> ?_)
 have HW:Hid (Below w.heap.size w W):=Lib.hid (by rw[←hW];repeat (first|exact Below.refl _ _|refine below_alloc ?_))
 have HWs:Hid (W.heap.size=w.heap.size+1):=Lib.hid (by rw[←hW];simp)
 have HBW:Hid (W.heap.size≤W.heap.size):=Lib.hid (by have:=HWs.out;omega)
 have HC:=fun(W1:World) (hb:Below (W.heap.size) W W1)=>Lib.hid (show W1.cell? ⟨w.heap.size,0,none⟩=some (.slice va vn vc)∧W1.cell? ⟨w.heap.size,1,none⟩=some (.slice ea en ec) from by exact⟨(hb.cell (p:=⟨w.heap.size,0,none⟩) (by show w.heap.size<W.heap.size;have:=HWs.out;omega)).trans (by rw[←hW];clear hW;go_simp),(hb.cell (p:=⟨w.heap.size,1,none⟩) (by show w.heap.size<W.heap.size;have:=HWs.out;omega)).trans (by rw[←hW];clear hW;go_simp)⟩)
 have HB:=Lib.hid (Below.refl (W.heap.size) W)
 clear hW
 obtain⟨q1_0,q1_1⟩:=(HC _ HB.out).out
 have r1_0:=Nat.lt_of_lt_of_le (show w.heap.size<W.heap.size by have:=HWs.out;omega) HB.out.size
 go_wp2_with fail
 clear q1_0 q1_1 r1_0
 go_loopw [3] (fun v wr=> ∃k:Nat,k≤vn∧v= .int .i64 k∧(∀j u,j<k→p.vs[j]? =some u→VOk p.vs j u)∧Below W.heap.size W wr) (fun v _=>vn - (intOf v).toNat)
 case atStart=>exact⟨0,Nat.zero_le _,rfl,fun j u hj=>absurd hj (by omega),HB.out⟩
 case round=>
  clear HB
  obtain⟨k,hk,rfl,hall,hb⟩:=hrel
  obtain⟨wq,rfl⟩: ∃x:World,x=wr:=⟨_,rfl⟩
  have HB:=Lib.hid hb
  have HA:=Lib.hid hall
  clear hb hall
  obtain⟨q2_0,q2_1⟩:=(HC _ HB.out).out
  have r2_0:=Nat.lt_of_lt_of_le (show w.heap.size<W.heap.size by have:=HWs.out;omega) HB.out.size
  have HX:=Lib.hid (HW.out.trans (HB.out.mono HW.out.size))
  by_cases hlt:k<vn
  ·skip
   obtain⟨vb,off,rfl,hvb,hcell⟩:=HV.out.row (by omega)
   have HCV:=fun(W1:World) (hb:Below w.heap.size w W1) (i:Nat) (u:Vx) (hi:p.vs[i]? =some u)=>Lib.hid (hcell W1 (hb.mono hB) i u hi)
   clear hcell
   obtain⟨v,hv⟩: ∃v,p.vs[k]? =some v:=⟨_,List.getElem?_eq_getElem (by have:=HL.out;omega)⟩
   have HVK:=Lib.hid hv
   clear hv
   obtain⟨e0,e1,e2⟩:=(HCV _ HX.out k v HVK.out).out
   go_wp2_with fail
   first|refine wp_name (fun W2 hW2=> ?_)|refine calls_name (fun W2 hW2=> ?_)
   have HW2:Hid (Below wq.heap.size wq W2):=Lib.hid (by rw[←hW2];repeat (first|exact Below.refl _ _|refine below_alloc ?_))
   have HWs2:Hid (W2.heap.size=wq.heap.size+1):=Lib.hid (by rw[←hW2];simp)
   have HBW2:Hid (W2.heap.size≤W2.heap.size):=Lib.hid (by have:=HWs2.out;omega)
   have HC2:=fun(W1:World) (hb:Below (W2.heap.size) W2 W1)=>Lib.hid (show W1.cell? ⟨w.heap.size,0,none⟩=some (.slice (some ⟨vb,off,none⟩) vn vc)∧W1.cell? ⟨w.heap.size,1,none⟩=some (.slice ea en ec)∧W1.cell? ⟨wq.heap.size,0,none⟩=some (.int .i64 v.id)∧W1.cell? ⟨wq.heap.size,1,none⟩=some (.int .i64 v.at_.x)∧W1.cell? ⟨wq.heap.size,2,none⟩=some (.int .i64 v.at_.y) from by have ho:=(HC W1 (in_of HB.out HW2.out hb (Nat.le_trans HBW.out HB.out.size) (by have h1:=HBW.out;have h2:=HB.out.size;have h3:=HW2.out.size;have h4:=HWs2.out;omega))).out;exact⟨ho.1,ho.2,(hb.cell (p:=⟨wq.heap.size,0,none⟩) (by show wq.heap.size<W2.heap.size;have:=HWs2.out;omega)).trans (by rw[←hW2];clear hW2;go_simp),(hb.cell (p:=⟨wq.heap.size,1,none⟩) (by show wq.heap.size<W2.heap.size;have:=HWs2.out;omega)).trans (by rw[←hW2];clear hW2;go_simp),(hb.cell (p:=⟨wq.heap.size,2,none⟩) (by show wq.heap.size<W2.heap.size;have:=HWs2.out;omega)).trans (by rw[←hW2];clear hW2;go_simp)⟩)
   have HB2:=Lib.hid (Below.refl (W2.heap.size) W2)
   clear hW2
   clear q2_0 q2_1 r2_0
   obtain⟨q3_0,q3_1,q3_2,q3_3,q3_4⟩:=(HC2 _ HB2.out).out
   have r3_0:=Nat.lt_of_lt_of_le (show w.heap.size<W2.heap.size by have h0:w.heap.size<W.heap.size:=(by have:=HWs.out;omega);have h2:=HB.out.size;have h3:=HW2.out.size;omega) HB2.out.size
   have r3_1:=Nat.lt_of_lt_of_le (show wq.heap.size<W2.heap.size by have:=HWs2.out;omega) HB2.out.size
   have HX2:=Lib.hid (below_step HW2.out HX.out)
   clear e0 e1 e2
   have HIV:=HIN v.at_
   go_upto_region 7 with fail
   go_cut [3,55] (fun kv pv wx=>kv= .int .i64 k∧pv= .bool (badV p.vs k v)∧Below W2.heap.size W2 wx)
   case first=>
    have hbd:badV p.vs k v=((decide (v.id<1)||(decide (0<k)&&decide (v.id≤pid p.vs k)))|| !inB v.at_):=rfl
    generalize inB v.at_=z at hbd HIV
    rcases Nat.eq_zero_or_pos k with hk0|hk0
    ·have hk1: ¬(0:Int)<(k:Int):=by omega
     have hk2:decide (0<k)=false:=by simp;omega
     have hk3: ¬0<k:=by omega
     rw[hk2] at hbd
     clear hk0 hk2
     by_cases c1:v.id<1
     ·refine wp_name (fun c4 hc4=> ?_)
      have HB2:=Lib.hid (below_name (below_next HB2.out (Nat.le_trans HBW2.out HB2.out.size) (by repeat (first|exact Below.refl _ _|refine below_alloc ?_))) hc4)
      skip
      clear hc4
      have x4_0:=fun(x:Later c4)=>(HC2 _ (below_next HB2.out (Nat.le_trans HBW2.out HB2.out.size) x.2)).out.1
      have x4_1:=fun(x:Later c4)=>(HC2 _ (below_next HB2.out (Nat.le_trans HBW2.out HB2.out.size) x.2)).out.2.1
      have x4_2:=fun(x:Later c4)=>(HC2 _ (below_next HB2.out (Nat.le_trans HBW2.out HB2.out.size) x.2)).out.2.2.1
      have x4_3:=fun(x:Later c4)=>(HC2 _ (below_next HB2.out (Nat.le_trans HBW2.out HB2.out.size) x.2)).out.2.2.2.1
      have x4_4:=fun(x:Later c4)=>(HC2 _ (below_next HB2.out (Nat.le_trans HBW2.out HB2.out.size) x.2)).out.2.2.2.2
      refine wp_region_later (by kernel_rfl) (by kernel_rfl) ?_
      repeat (first|go_big_quiet_step (((go_at_call 23;with_reducible refine Later.call (HIV _).out)))|quiet_step (((go_at_call 23;with_reducible refine Later.call (HIV _).out))))
      refine wpQuiet_nil ?_
      intro w4 hw4
      have hb4:=later_below hw4
      clear hw4
      have HB2:=Lib.hid (below_next HB2.out (Nat.le_trans HBW2.out HB2.out.size) hb4)
      clear x4_0 x4_1 x4_2 x4_3 x4_4
      clear q3_0 q3_1 q3_2 q3_3 q3_4 r3_0 r3_1
      obtain⟨q4_0,q4_1,q4_2,q4_3,q4_4⟩:=(HC2 _ HB2.out).out
      skip
      clear hb4
      have r4_0:=Nat.lt_of_lt_of_le (show w.heap.size<W2.heap.size by have h0:w.heap.size<W.heap.size:=(by have:=HWs.out;omega);have h2:=HB.out.size;have h3:=HW2.out.size;omega) HB2.out.size
      have r4_1:=Nat.lt_of_lt_of_le (show wq.heap.size<W2.heap.size by have:=HWs2.out;omega) HB2.out.size
      go_wp2_with fail
      go_meet
      exact⟨by simp,by rw[hbd,decide_eq_true (show v.id<1 by omega)];simp,HB2.out⟩
     ·refine wp_name (fun c5 hc5=> ?_)
      have HB2:=Lib.hid (below_name (below_next HB2.out (Nat.le_trans HBW2.out HB2.out.size) (by repeat (first|exact Below.refl _ _|refine below_alloc ?_))) hc5)
      skip
      clear hc5
      have x5_0:=fun(x:Later c5)=>(HC2 _ (below_next HB2.out (Nat.le_trans HBW2.out HB2.out.size) x.2)).out.1
      have x5_1:=fun(x:Later c5)=>(HC2 _ (below_next HB2.out (Nat.le_trans HBW2.out HB2.out.size) x.2)).out.2.1
      have x5_2:=fun(x:Later c5)=>(HC2 _ (below_next HB2.out (Nat.le_trans HBW2.out HB2.out.size) x.2)).out.2.2.1
      have x5_3:=fun(x:Later c5)=>(HC2 _ (below_next HB2.out (Nat.le_trans HBW2.out HB2.out.size) x.2)).out.2.2.2.1
      have x5_4:=fun(x:Later c5)=>(HC2 _ (below_next HB2.out (Nat.le_trans HBW2.out HB2.out.size) x.2)).out.2.2.2.2
      refine wp_region_later (by kernel_rfl) (by kernel_rfl) ?_
      repeat (first|go_big_quiet_step (((go_at_call 23;with_reducible refine Later.call (HIV _).out)))|quiet_step (((go_at_call 23;with_reducible refine Later.call (HIV _).out))))
      refine wpQuiet_nil ?_
      intro w5 hw5
      have hb5:=later_below hw5
      clear hw5
      have HB2:=Lib.hid (below_next HB2.out (Nat.le_trans HBW2.out HB2.out.size) hb5)
      clear x5_0 x5_1 x5_2 x5_3 x5_4
      clear q3_0 q3_1 q3_2 q3_3 q3_4 r3_0 r3_1
      obtain⟨q5_0,q5_1,q5_2,q5_3,q5_4⟩:=(HC2 _ HB2.out).out
      skip
      clear hb5
      have r5_0:=Nat.lt_of_lt_of_le (show w.heap.size<W2.heap.size by have h0:w.heap.size<W.heap.size:=(by have:=HWs.out;omega);have h2:=HB.out.size;have h3:=HW2.out.size;omega) HB2.out.size
      have r5_1:=Nat.lt_of_lt_of_le (show wq.heap.size<W2.heap.size by have:=HWs2.out;omega) HB2.out.size
      go_wp2_with fail
      go_meet
      exact⟨by simp,by rw[hbd,decide_eq_false (show¬v.id<1 by omega)];simp,HB2.out⟩
    ·obtain⟨m,rfl⟩: ∃m,k=m+1:=⟨k - 1,by omega⟩
     obtain⟨u,hu⟩: ∃u,p.vs[m]? =some u:=⟨_,List.getElem?_eq_getElem (by have:=HL.out;omega)⟩
     have HUM:=Lib.hid hu
     rw[pid_suc hu] at hbd
     clear hu
     have hm1:m<vn:=by omega
     have hm2:(0:Int)<(m:Int)+1:=by omega
     by_cases c1:v.id<1
     ·refine wp_name (fun c6 hc6=> ?_)
      have HB2:=Lib.hid (below_name (below_next HB2.out (Nat.le_trans HBW2.out HB2.out.size) (by repeat (first|exact Below.refl _ _|refine below_alloc ?_))) hc6)
      have y9:=fun(x:Later c6)=>(HCV x.1 (HX2.out.trans ((HB2.out.trans (x.2.mono HB2.out.size)).mono HX2.out.size)) m u HUM.out).out.1
      clear hc6
      have x6_0:=fun(x:Later c6)=>(HC2 _ (below_next HB2.out (Nat.le_trans HBW2.out HB2.out.size) x.2)).out.1
      have x6_1:=fun(x:Later c6)=>(HC2 _ (below_next HB2.out (Nat.le_trans HBW2.out HB2.out.size) x.2)).out.2.1
      have x6_2:=fun(x:Later c6)=>(HC2 _ (below_next HB2.out (Nat.le_trans HBW2.out HB2.out.size) x.2)).out.2.2.1
      have x6_3:=fun(x:Later c6)=>(HC2 _ (below_next HB2.out (Nat.le_trans HBW2.out HB2.out.size) x.2)).out.2.2.2.1
      have x6_4:=fun(x:Later c6)=>(HC2 _ (below_next HB2.out (Nat.le_trans HBW2.out HB2.out.size) x.2)).out.2.2.2.2
      refine wp_region_later (by kernel_rfl) (by kernel_rfl) ?_
      repeat (first|go_big_quiet_step (((go_at_call 23;with_reducible refine Later.call (HIV _).out)))|quiet_step (((go_at_call 23;with_reducible refine Later.call (HIV _).out))))
      refine wpQuiet_nil ?_
      intro w6 hw6
      have hb6:=later_below hw6
      clear hw6
      have HB2:=Lib.hid (below_next HB2.out (Nat.le_trans HBW2.out HB2.out.size) hb6)
      clear x6_0 x6_1 x6_2 x6_3 x6_4
      clear q3_0 q3_1 q3_2 q3_3 q3_4 r3_0 r3_1
      obtain⟨q6_0,q6_1,q6_2,q6_3,q6_4⟩:=(HC2 _ HB2.out).out
      skip
      clear hb6
      have r6_0:=Nat.lt_of_lt_of_le (show w.heap.size<W2.heap.size by have h0:w.heap.size<W.heap.size:=(by have:=HWs.out;omega);have h2:=HB.out.size;have h3:=HW2.out.size;omega) HB2.out.size
      have r6_1:=Nat.lt_of_lt_of_le (show wq.heap.size<W2.heap.size by have:=HWs2.out;omega) HB2.out.size
      go_wp2_with fail
      go_meet
      exact⟨by simp,by rw[hbd,decide_eq_true (show v.id<1 by omega)];simp,HB2.out⟩
     ·by_cases c2:v.id≤u.id
      ·refine wp_name (fun c7 hc7=> ?_)
       have HB2:=Lib.hid (below_name (below_next HB2.out (Nat.le_trans HBW2.out HB2.out.size) (by repeat (first|exact Below.refl _ _|refine below_alloc ?_))) hc7)
       have y9:=fun(x:Later c7)=>(HCV x.1 (HX2.out.trans ((HB2.out.trans (x.2.mono HB2.out.size)).mono HX2.out.size)) m u HUM.out).out.1
       clear hc7
       have x7_0:=fun(x:Later c7)=>(HC2 _ (below_next HB2.out (Nat.le_trans HBW2.out HB2.out.size) x.2)).out.1
       have x7_1:=fun(x:Later c7)=>(HC2 _ (below_next HB2.out (Nat.le_trans HBW2.out HB2.out.size) x.2)).out.2.1
       have x7_2:=fun(x:Later c7)=>(HC2 _ (below_next HB2.out (Nat.le_trans HBW2.out HB2.out.size) x.2)).out.2.2.1
       have x7_3:=fun(x:Later c7)=>(HC2 _ (below_next HB2.out (Nat.le_trans HBW2.out HB2.out.size) x.2)).out.2.2.2.1
       have x7_4:=fun(x:Later c7)=>(HC2 _ (below_next HB2.out (Nat.le_trans HBW2.out HB2.out.size) x.2)).out.2.2.2.2
       refine wp_region_later (by kernel_rfl) (by kernel_rfl) ?_
       repeat (first|go_big_quiet_step (((go_at_call 23;with_reducible refine Later.call (HIV _).out)))|quiet_step (((go_at_call 23;with_reducible refine Later.call (HIV _).out))))
       refine wpQuiet_nil ?_
       intro w7 hw7
       have hb7:=later_below hw7
       clear hw7
       have HB2:=Lib.hid (below_next HB2.out (Nat.le_trans HBW2.out HB2.out.size) hb7)
       clear x7_0 x7_1 x7_2 x7_3 x7_4
       clear q3_0 q3_1 q3_2 q3_3 q3_4 r3_0 r3_1
       obtain⟨q7_0,q7_1,q7_2,q7_3,q7_4⟩:=(HC2 _ HB2.out).out
       skip
       clear hb7
       have r7_0:=Nat.lt_of_lt_of_le (show w.heap.size<W2.heap.size by have h0:w.heap.size<W.heap.size:=(by have:=HWs.out;omega);have h2:=HB.out.size;have h3:=HW2.out.size;omega) HB2.out.size
       have r7_1:=Nat.lt_of_lt_of_le (show wq.heap.size<W2.heap.size by have:=HWs2.out;omega) HB2.out.size
       go_wp2_with fail
       go_meet
       exact⟨by simp,by rw[hbd,decide_eq_false (show¬v.id<1 by omega),decide_eq_true (show v.id≤u.id by omega)];simp,HB2.out⟩
      ·refine wp_name (fun c8 hc8=> ?_)
       have HB2:=Lib.hid (below_name (below_next HB2.out (Nat.le_trans HBW2.out HB2.out.size) (by repeat (first|exact Below.refl _ _|refine below_alloc ?_))) hc8)
       have y9:=fun(x:Later c8)=>(HCV x.1 (HX2.out.trans ((HB2.out.trans (x.2.mono HB2.out.size)).mono HX2.out.size)) m u HUM.out).out.1
       clear hc8
       have x8_0:=fun(x:Later c8)=>(HC2 _ (below_next HB2.out (Nat.le_trans HBW2.out HB2.out.size) x.2)).out.1
       have x8_1:=fun(x:Later c8)=>(HC2 _ (below_next HB2.out (Nat.le_trans HBW2.out HB2.out.size) x.2)).out.2.1
       have x8_2:=fun(x:Later c8)=>(HC2 _ (below_next HB2.out (Nat.le_trans HBW2.out HB2.out.size) x.2)).out.2.2.1
       have x8_3:=fun(x:Later c8)=>(HC2 _ (below_next HB2.out (Nat.le_trans HBW2.out HB2.out.size) x.2)).out.2.2.2.1
       have x8_4:=fun(x:Later c8)=>(HC2 _ (below_next HB2.out (Nat.le_trans HBW2.out HB2.out.size) x.2)).out.2.2.2.2
       refine wp_region_later (by kernel_rfl) (by kernel_rfl) ?_
       repeat (first|go_big_quiet_step (((go_at_call 23;with_reducible refine Later.call (HIV _).out)))|quiet_step (((go_at_call 23;with_reducible refine Later.call (HIV _).out))))
       refine wpQuiet_nil ?_
       intro w8 hw8
       have hb8:=later_below hw8
       clear hw8
       have HB2:=Lib.hid (below_next HB2.out (Nat.le_trans HBW2.out HB2.out.size) hb8)
       clear x8_0 x8_1 x8_2 x8_3 x8_4
       clear q3_0 q3_1 q3_2 q3_3 q3_4 r3_0 r3_1
       obtain⟨q8_0,q8_1,q8_2,q8_3,q8_4⟩:=(HC2 _ HB2.out).out
       skip
       clear hb8
       have r8_0:=Nat.lt_of_lt_of_le (show w.heap.size<W2.heap.size by have h0:w.heap.size<W.heap.size:=(by have:=HWs.out;omega);have h2:=HB.out.size;have h3:=HW2.out.size;omega) HB2.out.size
       have r8_1:=Nat.lt_of_lt_of_le (show wq.heap.size<W2.heap.size by have:=HWs2.out;omega) HB2.out.size
       go_wp2_with fail
       go_meet
       exact⟨by simp,by rw[hbd,decide_eq_false (show¬v.id<1 by omega),decide_eq_false (show¬v.id≤u.id by omega)];simp,HB2.out⟩
   case rest=>
   obtain⟨rfl,rfl,hbx⟩:=hcut
   have HB2:=Lib.hid hbx
   clear hbx
   have HBO:=Lib.hid (HB.out.trans ((HW2.out.trans (HB2.out.mono HW2.out.size)).mono HB.out.size))
   cases hbad:badV p.vs k v
   ·have HBAD:=Lib.hid hbad
    clear hbad
    clear q3_0 q3_1 q3_2 q3_3 q3_4 r3_0 r3_1
    obtain⟨q9_0,q9_1,q9_2,q9_3,q9_4⟩:=(HC2 _ HB2.out).out
    have r9_0:=Nat.lt_of_lt_of_le (show w.heap.size<W2.heap.size by have h0:w.heap.size<W.heap.size:=(by have:=HWs.out;omega);have h2:=HB.out.size;have h3:=HW2.out.size;omega) HB2.out.size
    have r9_1:=Nat.lt_of_lt_of_le (show wq.heap.size<W2.heap.size by have:=HWs2.out;omega) HB2.out.size
    go_wp2_with fail
    clear q9_0 q9_1 q9_2 q9_3 q9_4 r9_0 r9_1
    go_loopw [5] (fun z wi=> ∃j:Nat,j≤k∧z= .int .i64 j∧(∀i u,i<j→p.vs[i]? =some u→u.at_≠v.at_)∧Below W2.heap.size W2 wi) (fun z _=>k - (intOf z).toNat)
    case atStart=>exact⟨0,Nat.zero_le _,rfl,fun i u hi=>absurd hi (by omega),HB2.out⟩
    case round=>
     clear HB2 HBO
     obtain⟨j,hj,rfl,hmet,hb⟩:=hrel
     have HB2:=Lib.hid hb
     have HMT:=Lib.hid hmet
     clear hb hmet
     obtain⟨q10_0,q10_1,q10_2,q10_3,q10_4⟩:=(HC2 _ HB2.out).out
     have r10_0:=Nat.lt_of_lt_of_le (show w.heap.size<W2.heap.size by have h0:w.heap.size<W.heap.size:=(by have:=HWs.out;omega);have h2:=HB.out.size;have h3:=HW2.out.size;omega) HB2.out.size
     have r10_1:=Nat.lt_of_lt_of_le (show wq.heap.size<W2.heap.size by have:=HWs2.out;omega) HB2.out.size
     have HX3:=Lib.hid (HX2.out.trans (HB2.out.mono HX2.out.size))
     by_cases hjk:j<k
     ·obtain⟨u,hu⟩: ∃u,p.vs[j]? =some u:=⟨_,List.getElem?_eq_getElem (by have:=HL.out;omega)⟩
      have HUJ:=Lib.hid hu
      clear hu
      have hjv:j<vn:=by omega
      cases heq:decide (u.at_=v.at_)
      ·have rq:=eq_pt_f heq
       have HEQ:=Lib.hid heq
       clear heq
       go_wp2_with fail
       refine wp_name (fun c11 hc11=> ?_)
       have HB2:=Lib.hid (below_name (below_next HB2.out (Nat.le_trans HBW2.out HB2.out.size) (by repeat (first|exact Below.refl _ _|refine below_alloc ?_))) hc11)
       have y8:=fun(x:Later c11)=>(HCV x.1 (HX2.out.trans ((HB2.out.trans (x.2.mono HB2.out.size)).mono HX2.out.size)) j u HUJ.out).out.2
       clear hc11
       have x11_0:=fun(x:Later c11)=>(HC2 _ (below_next HB2.out (Nat.le_trans HBW2.out HB2.out.size) x.2)).out.1
       have x11_1:=fun(x:Later c11)=>(HC2 _ (below_next HB2.out (Nat.le_trans HBW2.out HB2.out.size) x.2)).out.2.1
       have x11_2:=fun(x:Later c11)=>(HC2 _ (below_next HB2.out (Nat.le_trans HBW2.out HB2.out.size) x.2)).out.2.2.1
       have x11_3:=fun(x:Later c11)=>(HC2 _ (below_next HB2.out (Nat.le_trans HBW2.out HB2.out.size) x.2)).out.2.2.2.1
       have x11_4:=fun(x:Later c11)=>(HC2 _ (below_next HB2.out (Nat.le_trans HBW2.out HB2.out.size) x.2)).out.2.2.2.2
       refine wp_region_later (by kernel_rfl) (by kernel_rfl) ?_
       repeat (first|go_big_quiet_step ((fail))|quiet_step ((fail)))
       refine wpQuiet_nil ?_
       intro w11 hw11
       have hb11:=later_below hw11
       clear hw11
       have HB2:=Lib.hid (below_next HB2.out (Nat.le_trans HBW2.out HB2.out.size) hb11)
       clear x11_0 x11_1 x11_2 x11_3 x11_4
       clear q10_0 q10_1 q10_2 q10_3 q10_4 r10_0 r10_1
       obtain⟨q11_0,q11_1,q11_2,q11_3,q11_4⟩:=(HC2 _ HB2.out).out
       skip
       clear hb11
       have r11_0:=Nat.lt_of_lt_of_le (show w.heap.size<W2.heap.size by have h0:w.heap.size<W.heap.size:=(by have:=HWs.out;omega);have h2:=HB.out.size;have h3:=HW2.out.size;omega) HB2.out.size
       have r11_1:=Nat.lt_of_lt_of_le (show wq.heap.size<W2.heap.size by have:=HWs2.out;omega) HB2.out.size
       go_wp2_with fail
       go_roundw
       case rel=>
        refine⟨j+1,by omega,by go_num,fun i x hi hx=> ?_,HB2.out⟩
        by_cases hij:i<j
        ·exact HMT.out i x hij hx
        ·obtain rfl:i=j:=by omega
         rw[HUJ.out] at hx
         injection hx with hx
         subst hx
         exact of_decide_eq_false HEQ.out
       case measure=>simp[intOf];omega
      ·have F:=Lib.hid (met_no HVK.out HUJ.out hjk (of_decide_eq_true heq))
       have rq:=eq_pt_t heq
       clear heq
       go_wp2_with fail
       refine wp_name (fun c12 hc12=> ?_)
       have HB2:=Lib.hid (below_name (below_next HB2.out (Nat.le_trans HBW2.out HB2.out.size) (by repeat (first|exact Below.refl _ _|refine below_alloc ?_))) hc12)
       have y8:=fun(x:Later c12)=>(HCV x.1 (HX2.out.trans ((HB2.out.trans (x.2.mono HB2.out.size)).mono HX2.out.size)) j u HUJ.out).out.2
       clear hc12
       have x12_0:=fun(x:Later c12)=>(HC2 _ (below_next HB2.out (Nat.le_trans HBW2.out HB2.out.size) x.2)).out.1
       have x12_1:=fun(x:Later c12)=>(HC2 _ (below_next HB2.out (Nat.le_trans HBW2.out HB2.out.size) x.2)).out.2.1
       have x12_2:=fun(x:Later c12)=>(HC2 _ (below_next HB2.out (Nat.le_trans HBW2.out HB2.out.size) x.2)).out.2.2.1
       have x12_3:=fun(x:Later c12)=>(HC2 _ (below_next HB2.out (Nat.le_trans HBW2.out HB2.out.size) x.2)).out.2.2.2.1
       have x12_4:=fun(x:Later c12)=>(HC2 _ (below_next HB2.out (Nat.le_trans HBW2.out HB2.out.size) x.2)).out.2.2.2.2
       refine wp_region_later (by kernel_rfl) (by kernel_rfl) ?_
       repeat (first|go_big_quiet_step ((fail))|quiet_step ((fail)))
       refine wpQuiet_nil ?_
       intro w12 hw12
       have hb12:=later_below hw12
       clear hw12
       have HB2:=Lib.hid (below_next HB2.out (Nat.le_trans HBW2.out HB2.out.size) hb12)
       clear x12_0 x12_1 x12_2 x12_3 x12_4
       clear q10_0 q10_1 q10_2 q10_3 q10_4 r10_0 r10_1
       obtain⟨q12_0,q12_1,q12_2,q12_3,q12_4⟩:=(HC2 _ HB2.out).out
       skip
       clear hb12
       have r12_0:=Nat.lt_of_lt_of_le (show w.heap.size<W2.heap.size by have h0:w.heap.size<W.heap.size:=(by have:=HWs.out;omega);have h2:=HB.out.size;have h3:=HW2.out.size;omega) HB2.out.size
       have r12_1:=Nat.lt_of_lt_of_le (show wq.heap.size<W2.heap.size by have:=HWs2.out;omega) HB2.out.size
       go_wp2_with fail
       go_ret
       exact⟨by rw[F.out];rfl,HX2.out.trans (HB2.out.mono HX2.out.size)⟩
     ·have HOK:=Lib.hid (badV_ok HBAD.out (fun i u hi hu=>HMT.out i u (by omega) hu))
      have HBO:=Lib.hid (HB.out.trans ((HW2.out.trans (HB2.out.mono HW2.out.size)).mono HB.out.size))
      go_wp2_with fail
      go_roundw
      case rel=>
       refine⟨k+1,by omega,by go_num,fun i x hi hx=> ?_,HBO.out⟩
       by_cases hik:i<k
       ·exact HA.out i x hik hx
       ·obtain rfl:i=k:=by omega
        rw[HVK.out] at hx
        injection hx with hx
        subst hx
        exact HOK.out
      case measure=>simp[intOf];omega
   ·have F:=Lib.hid (badV_no HVK.out hbad)
    clear hbad
    clear q3_0 q3_1 q3_2 q3_3 q3_4 r3_0 r3_1
    obtain⟨q13_0,q13_1,q13_2,q13_3,q13_4⟩:=(HC2 _ HB2.out).out
    have r13_0:=Nat.lt_of_lt_of_le (show w.heap.size<W2.heap.size by have h0:w.heap.size<W.heap.size:=(by have:=HWs.out;omega);have h2:=HB.out.size;have h3:=HW2.out.size;omega) HB2.out.size
    have r13_1:=Nat.lt_of_lt_of_le (show wq.heap.size<W2.heap.size by have:=HWs2.out;omega) HB2.out.size
    go_wp2_with fail
    go_ret
    exact⟨by rw[F.out];rfl,HW.out.trans (HBO.out.mono HW.out.size)⟩
  ·have HVO:=Lib.hid (fun i v (h:p.vs[i]? =some v)=>HA.out i v (by have:=(List.getElem?_eq_some_iff.1 h).1;have:=HL.out;omega) h)
   clear HA
   have HVX:=fun(W1:World) (hb:Below w.heap.size w W1) (id:Int) (ea1:Option Addr)=>Lib.hid (r15vertex_any (w:=W1) (vc:=vc) (HV.out.below (hb.mono hB)) (Nat.le_trans hB hb.size) (by omega) (.slice ea1 en ec) ⟨_,_,_,rfl⟩ id)
   obtain⟨wo,rfl⟩: ∃x:World,x=wq:=⟨_,rfl⟩
   go_wp2_with fail
   clear q2_0 q2_1 r2_0
   go_loopw [6] (fun v wr=> ∃n:Nat,n≤en∧v= .int .i64 n∧(∀j f,j<n→p.es[j]? =some f→ ∃A B,EOk p.vs p.es j f A B)∧Below W.heap.size W wr) (fun v _=>en - (intOf v).toNat)
   case atStart=>exact⟨0,Nat.zero_le _,rfl,fun j u hj=>absurd hj (by omega),HB.out⟩
   case round=>
    clear HB HX
    obtain⟨n,hn,rfl,hall,hb⟩:=hrel
    obtain⟨wq,rfl⟩: ∃x:World,x=wr:=⟨_,rfl⟩
    have HB:=Lib.hid hb
    have HA:=Lib.hid hall
    clear hb hall
    obtain⟨q14_0,q14_1⟩:=(HC _ HB.out).out
    have r14_0:=Nat.lt_of_lt_of_le (show w.heap.size<W.heap.size by have:=HWs.out;omega) HB.out.size
    have HX:=Lib.hid (HW.out.trans (HB.out.mono HW.out.size))
    by_cases hln:n<en
    ·obtain⟨eb,eoff,rfl,heb,hcell⟩:=HE.out.row (by omega)
     have HCE:=fun(W1:World) (hb:Below w.heap.size w W1) (i:Nat) (u:Ed) (hi:p.es[i]? =some u)=>Lib.hid (hcell W1 (hb.mono hB) i u hi)
     clear hcell
     obtain⟨e,he⟩: ∃e,p.es[n]? =some e:=⟨_,List.getElem?_eq_getElem (by have:=HM.out;omega)⟩
     have HEK:=Lib.hid he
     clear he
     obtain⟨e0,e1,e2⟩:=(HCE _ HX.out n e HEK.out).out
     go_wp2_with fail
     first|refine wp_name (fun W2 hW2=> ?_)|refine calls_name (fun W2 hW2=> ?_)
     have HW2:Hid (Below wq.heap.size wq W2):=Lib.hid (by rw[←hW2];repeat (first|exact Below.refl _ _|refine below_alloc ?_))
     have HWs2:Hid (W2.heap.size=wq.heap.size+1):=Lib.hid (by rw[←hW2];simp)
     have HBW2:Hid (W2.heap.size≤W2.heap.size):=Lib.hid (by have:=HWs2.out;omega)
     have HC2:=fun(W1:World) (hb:Below (W2.heap.size) W2 W1)=>Lib.hid (show W1.cell? ⟨w.heap.size,0,none⟩=some (.slice va vn vc)∧W1.cell? ⟨w.heap.size,1,none⟩=some (.slice (some ⟨eb,eoff,none⟩) en ec)∧W1.cell? ⟨wq.heap.size,0,none⟩=some (.int .i64 e.id)∧W1.cell? ⟨wq.heap.size,1,none⟩=some (.int .i64 e.a)∧W1.cell? ⟨wq.heap.size,2,none⟩=some (.int .i64 e.b) from by have ho:=(HC W1 (in_of HB.out HW2.out hb (Nat.le_trans HBW.out HB.out.size) (by have h1:=HBW.out;have h2:=HB.out.size;have h3:=HW2.out.size;have h4:=HWs2.out;omega))).out;exact⟨ho.1,ho.2,(hb.cell (p:=⟨wq.heap.size,0,none⟩) (by show wq.heap.size<W2.heap.size;have:=HWs2.out;omega)).trans (by rw[←hW2];clear hW2;go_simp),(hb.cell (p:=⟨wq.heap.size,1,none⟩) (by show wq.heap.size<W2.heap.size;have:=HWs2.out;omega)).trans (by rw[←hW2];clear hW2;go_simp),(hb.cell (p:=⟨wq.heap.size,2,none⟩) (by show wq.heap.size<W2.heap.size;have:=HWs2.out;omega)).trans (by rw[←hW2];clear hW2;go_simp)⟩)
     have HB2:=Lib.hid (Below.refl (W2.heap.size) W2)
     clear hW2
     clear q14_0 q14_1 r14_0
     obtain⟨q15_0,q15_1,q15_2,q15_3,q15_4⟩:=(HC2 _ HB2.out).out
     have r15_0:=Nat.lt_of_lt_of_le (show w.heap.size<W2.heap.size by have h0:w.heap.size<W.heap.size:=(by have:=HWs.out;omega);have h2:=HB.out.size;have h3:=HW2.out.size;omega) HB2.out.size
     have r15_1:=Nat.lt_of_lt_of_le (show wq.heap.size<W2.heap.size by have:=HWs2.out;omega) HB2.out.size
     have HX2:=Lib.hid (below_step HW2.out HX.out)
     clear e0 e1 e2
     have HVA:=fun(W1:World) (hb:Below w.heap.size w W1)=>HVX W1 hb e.a (some ⟨eb,eoff,none⟩)
     have HVB:=fun(W1:World) (hb:Below w.heap.size w W1)=>HVX W1 hb e.b (some ⟨eb,eoff,none⟩)
     go_upto_region 18 with fail
     go_cut [6,121] (fun kv pv wx=>kv= .int .i64 n∧pv= .bool (badE p.vs p.es n e)∧Below W2.heap.size W2 wx)
     case first=>
      have hbd:badE p.vs p.es n e=((((decide (e.id<1)||(decide (0<n)&&decide (e.id≤eid p.es n)))||decide (e.a=e.b))|| !hasV p.vs e.a)|| !hasV p.vs e.b):=rfl
      have hxa:=plI_cases p.vs e.a
      have hxb:=plI_cases p.vs e.b
      generalize plI p.vs e.a=xa at HVA hxa
      generalize plI p.vs e.b=xb at HVB hxb
      rcases Nat.eq_zero_or_pos n with hk0|hk0
      ·have hk1: ¬(0:Int)<(n:Int):=by omega
       have hk2:decide (0<n)=false:=by simp;omega
       have hk3: ¬0<n:=by omega
       rw[hk2] at hbd
       clear hk0 hk2
       by_cases c1:e.id<1
       ·refine wp_name (fun c16 hc16=> ?_)
        have HB2:=Lib.hid (below_name (below_next HB2.out (Nat.le_trans HBW2.out HB2.out.size) (by repeat (first|exact Below.refl _ _|refine below_alloc ?_))) hc16)
        have YB:=fun(x:Later c16)=>HX2.out.trans ((HB2.out.trans (x.2.mono HB2.out.size)).mono HX2.out.size);have HVAL:=fun(x:Later c16)=>HVA x.1 (YB x);have HVBL:=fun(x:Later c16)=>HVB x.1 (YB x);clear YB
        clear hc16
        have x16_0:=fun(x:Later c16)=>(HC2 _ (below_next HB2.out (Nat.le_trans HBW2.out HB2.out.size) x.2)).out.1
        have x16_1:=fun(x:Later c16)=>(HC2 _ (below_next HB2.out (Nat.le_trans HBW2.out HB2.out.size) x.2)).out.2.1
        have x16_2:=fun(x:Later c16)=>(HC2 _ (below_next HB2.out (Nat.le_trans HBW2.out HB2.out.size) x.2)).out.2.2.1
        have x16_3:=fun(x:Later c16)=>(HC2 _ (below_next HB2.out (Nat.le_trans HBW2.out HB2.out.size) x.2)).out.2.2.2.1
        have x16_4:=fun(x:Later c16)=>(HC2 _ (below_next HB2.out (Nat.le_trans HBW2.out HB2.out.size) x.2)).out.2.2.2.2
        refine wp_region_later (by kernel_rfl) (by kernel_rfl) ?_
        repeat (first|go_big_quiet_step (((first|(go_at_call 53;with_reducible refine Later.call (HVAL _).out)|(go_at_call 53;with_reducible refine Later.call (HVBL _).out))))|quiet_step (((first|(go_at_call 53;with_reducible refine Later.call (HVAL _).out)|(go_at_call 53;with_reducible refine Later.call (HVBL _).out)))))
        refine wpQuiet_nil ?_
        intro w16 hw16
        have hb16:=later_below hw16
        clear hw16
        have HB2:=Lib.hid (below_next HB2.out (Nat.le_trans HBW2.out HB2.out.size) hb16)
        clear x16_0 x16_1 x16_2 x16_3 x16_4
        clear q15_0 q15_1 q15_2 q15_3 q15_4 r15_0 r15_1
        obtain⟨q16_0,q16_1,q16_2,q16_3,q16_4⟩:=(HC2 _ HB2.out).out
        skip
        clear hb16
        have r16_0:=Nat.lt_of_lt_of_le (show w.heap.size<W2.heap.size by have h0:w.heap.size<W.heap.size:=(by have:=HWs.out;omega);have h2:=HB.out.size;have h3:=HW2.out.size;omega) HB2.out.size
        have r16_1:=Nat.lt_of_lt_of_le (show wq.heap.size<W2.heap.size by have:=HWs2.out;omega) HB2.out.size
        go_wp2_with fail
        go_meet
        exact⟨by simp,by rw[hbd,decide_eq_true (show e.id<1 by omega)];simp,HB2.out⟩
       ·rw[decide_eq_false c1] at hbd
        cases c3:(e.a==e.b)
        ·have c3':decide (e.a=e.b)=false:=by simpa using c3
         rw[c3'] at hbd
         clear c3'
         rcases hxa with ⟨h1,h2⟩|⟨h1,h2⟩
         ·rw[h1] at hbd
          clear h1
          rcases hxb with ⟨h3,h4⟩|⟨h3,h4⟩
          ·rw[h3] at hbd
           clear h3
           refine wp_name (fun c17 hc17=> ?_)
           have HB2:=Lib.hid (below_name (below_next HB2.out (Nat.le_trans HBW2.out HB2.out.size) (by repeat (first|exact Below.refl _ _|refine below_alloc ?_))) hc17)
           have YB:=fun(x:Later c17)=>HX2.out.trans ((HB2.out.trans (x.2.mono HB2.out.size)).mono HX2.out.size);have HVAL:=fun(x:Later c17)=>HVA x.1 (YB x);have HVBL:=fun(x:Later c17)=>HVB x.1 (YB x);clear YB
           clear hc17
           have x17_0:=fun(x:Later c17)=>(HC2 _ (below_next HB2.out (Nat.le_trans HBW2.out HB2.out.size) x.2)).out.1
           have x17_1:=fun(x:Later c17)=>(HC2 _ (below_next HB2.out (Nat.le_trans HBW2.out HB2.out.size) x.2)).out.2.1
           have x17_2:=fun(x:Later c17)=>(HC2 _ (below_next HB2.out (Nat.le_trans HBW2.out HB2.out.size) x.2)).out.2.2.1
           have x17_3:=fun(x:Later c17)=>(HC2 _ (below_next HB2.out (Nat.le_trans HBW2.out HB2.out.size) x.2)).out.2.2.2.1
           have x17_4:=fun(x:Later c17)=>(HC2 _ (below_next HB2.out (Nat.le_trans HBW2.out HB2.out.size) x.2)).out.2.2.2.2
           refine wp_region_later (by kernel_rfl) (by kernel_rfl) ?_
           repeat (first|go_big_quiet_step (((first|(go_at_call 53;with_reducible refine Later.call (HVAL _).out)|(go_at_call 53;with_reducible refine Later.call (HVBL _).out))))|quiet_step (((first|(go_at_call 53;with_reducible refine Later.call (HVAL _).out)|(go_at_call 53;with_reducible refine Later.call (HVBL _).out)))))
           refine wpQuiet_nil ?_
           intro w17 hw17
           have hb17:=later_below hw17
           clear hw17
           have HB2:=Lib.hid (below_next HB2.out (Nat.le_trans HBW2.out HB2.out.size) hb17)
           clear x17_0 x17_1 x17_2 x17_3 x17_4
           clear q15_0 q15_1 q15_2 q15_3 q15_4 r15_0 r15_1
           obtain⟨q17_0,q17_1,q17_2,q17_3,q17_4⟩:=(HC2 _ HB2.out).out
           skip
           clear hb17
           have r17_0:=Nat.lt_of_lt_of_le (show w.heap.size<W2.heap.size by have h0:w.heap.size<W.heap.size:=(by have:=HWs.out;omega);have h2:=HB.out.size;have h3:=HW2.out.size;omega) HB2.out.size
           have r17_1:=Nat.lt_of_lt_of_le (show wq.heap.size<W2.heap.size by have:=HWs2.out;omega) HB2.out.size
           go_wp2_with fail
           go_meet
           exact⟨by simp,by rw[hbd];simp,HB2.out⟩
          ·rw[h3] at hbd
           clear h3
           refine wp_name (fun c18 hc18=> ?_)
           have HB2:=Lib.hid (below_name (below_next HB2.out (Nat.le_trans HBW2.out HB2.out.size) (by repeat (first|exact Below.refl _ _|refine below_alloc ?_))) hc18)
           have YB:=fun(x:Later c18)=>HX2.out.trans ((HB2.out.trans (x.2.mono HB2.out.size)).mono HX2.out.size);have HVAL:=fun(x:Later c18)=>HVA x.1 (YB x);have HVBL:=fun(x:Later c18)=>HVB x.1 (YB x);clear YB
           clear hc18
           have x18_0:=fun(x:Later c18)=>(HC2 _ (below_next HB2.out (Nat.le_trans HBW2.out HB2.out.size) x.2)).out.1
           have x18_1:=fun(x:Later c18)=>(HC2 _ (below_next HB2.out (Nat.le_trans HBW2.out HB2.out.size) x.2)).out.2.1
           have x18_2:=fun(x:Later c18)=>(HC2 _ (below_next HB2.out (Nat.le_trans HBW2.out HB2.out.size) x.2)).out.2.2.1
           have x18_3:=fun(x:Later c18)=>(HC2 _ (below_next HB2.out (Nat.le_trans HBW2.out HB2.out.size) x.2)).out.2.2.2.1
           have x18_4:=fun(x:Later c18)=>(HC2 _ (below_next HB2.out (Nat.le_trans HBW2.out HB2.out.size) x.2)).out.2.2.2.2
           refine wp_region_later (by kernel_rfl) (by kernel_rfl) ?_
           repeat (first|go_big_quiet_step (((first|(go_at_call 53;with_reducible refine Later.call (HVAL _).out)|(go_at_call 53;with_reducible refine Later.call (HVBL _).out))))|quiet_step (((first|(go_at_call 53;with_reducible refine Later.call (HVAL _).out)|(go_at_call 53;with_reducible refine Later.call (HVBL _).out)))))
           refine wpQuiet_nil ?_
           intro w18 hw18
           have hb18:=later_below hw18
           clear hw18
           have HB2:=Lib.hid (below_next HB2.out (Nat.le_trans HBW2.out HB2.out.size) hb18)
           clear x18_0 x18_1 x18_2 x18_3 x18_4
           clear q15_0 q15_1 q15_2 q15_3 q15_4 r15_0 r15_1
           obtain⟨q18_0,q18_1,q18_2,q18_3,q18_4⟩:=(HC2 _ HB2.out).out
           skip
           clear hb18
           have r18_0:=Nat.lt_of_lt_of_le (show w.heap.size<W2.heap.size by have h0:w.heap.size<W.heap.size:=(by have:=HWs.out;omega);have h2:=HB.out.size;have h3:=HW2.out.size;omega) HB2.out.size
           have r18_1:=Nat.lt_of_lt_of_le (show wq.heap.size<W2.heap.size by have:=HWs2.out;omega) HB2.out.size
           go_wp2_with fail
           go_meet
           exact⟨by simp,by rw[hbd];simp,HB2.out⟩
         ·rw[h1] at hbd
          clear h1 hxb
          refine wp_name (fun c19 hc19=> ?_)
          have HB2:=Lib.hid (below_name (below_next HB2.out (Nat.le_trans HBW2.out HB2.out.size) (by repeat (first|exact Below.refl _ _|refine below_alloc ?_))) hc19)
          have YB:=fun(x:Later c19)=>HX2.out.trans ((HB2.out.trans (x.2.mono HB2.out.size)).mono HX2.out.size);have HVAL:=fun(x:Later c19)=>HVA x.1 (YB x);have HVBL:=fun(x:Later c19)=>HVB x.1 (YB x);clear YB
          clear hc19
          have x19_0:=fun(x:Later c19)=>(HC2 _ (below_next HB2.out (Nat.le_trans HBW2.out HB2.out.size) x.2)).out.1
          have x19_1:=fun(x:Later c19)=>(HC2 _ (below_next HB2.out (Nat.le_trans HBW2.out HB2.out.size) x.2)).out.2.1
          have x19_2:=fun(x:Later c19)=>(HC2 _ (below_next HB2.out (Nat.le_trans HBW2.out HB2.out.size) x.2)).out.2.2.1
          have x19_3:=fun(x:Later c19)=>(HC2 _ (below_next HB2.out (Nat.le_trans HBW2.out HB2.out.size) x.2)).out.2.2.2.1
          have x19_4:=fun(x:Later c19)=>(HC2 _ (below_next HB2.out (Nat.le_trans HBW2.out HB2.out.size) x.2)).out.2.2.2.2
          refine wp_region_later (by kernel_rfl) (by kernel_rfl) ?_
          repeat (first|go_big_quiet_step (((first|(go_at_call 53;with_reducible refine Later.call (HVAL _).out)|(go_at_call 53;with_reducible refine Later.call (HVBL _).out))))|quiet_step (((first|(go_at_call 53;with_reducible refine Later.call (HVAL _).out)|(go_at_call 53;with_reducible refine Later.call (HVBL _).out)))))
          refine wpQuiet_nil ?_
          intro w19 hw19
          have hb19:=later_below hw19
          clear hw19
          have HB2:=Lib.hid (below_next HB2.out (Nat.le_trans HBW2.out HB2.out.size) hb19)
          clear x19_0 x19_1 x19_2 x19_3 x19_4
          clear q15_0 q15_1 q15_2 q15_3 q15_4 r15_0 r15_1
          obtain⟨q19_0,q19_1,q19_2,q19_3,q19_4⟩:=(HC2 _ HB2.out).out
          skip
          clear hb19
          have r19_0:=Nat.lt_of_lt_of_le (show w.heap.size<W2.heap.size by have h0:w.heap.size<W.heap.size:=(by have:=HWs.out;omega);have h2:=HB.out.size;have h3:=HW2.out.size;omega) HB2.out.size
          have r19_1:=Nat.lt_of_lt_of_le (show wq.heap.size<W2.heap.size by have:=HWs2.out;omega) HB2.out.size
          go_wp2_with fail
          go_meet
          exact⟨by simp,by rw[hbd];simp,HB2.out⟩
        ·have c3':decide (e.a=e.b)=true:=by simpa using c3
         rw[c3'] at hbd
         clear c3' hxa hxb
         refine wp_name (fun c20 hc20=> ?_)
         have HB2:=Lib.hid (below_name (below_next HB2.out (Nat.le_trans HBW2.out HB2.out.size) (by repeat (first|exact Below.refl _ _|refine below_alloc ?_))) hc20)
         have YB:=fun(x:Later c20)=>HX2.out.trans ((HB2.out.trans (x.2.mono HB2.out.size)).mono HX2.out.size);have HVAL:=fun(x:Later c20)=>HVA x.1 (YB x);have HVBL:=fun(x:Later c20)=>HVB x.1 (YB x);clear YB
         clear hc20
         have x20_0:=fun(x:Later c20)=>(HC2 _ (below_next HB2.out (Nat.le_trans HBW2.out HB2.out.size) x.2)).out.1
         have x20_1:=fun(x:Later c20)=>(HC2 _ (below_next HB2.out (Nat.le_trans HBW2.out HB2.out.size) x.2)).out.2.1
         have x20_2:=fun(x:Later c20)=>(HC2 _ (below_next HB2.out (Nat.le_trans HBW2.out HB2.out.size) x.2)).out.2.2.1
         have x20_3:=fun(x:Later c20)=>(HC2 _ (below_next HB2.out (Nat.le_trans HBW2.out HB2.out.size) x.2)).out.2.2.2.1
         have x20_4:=fun(x:Later c20)=>(HC2 _ (below_next HB2.out (Nat.le_trans HBW2.out HB2.out.size) x.2)).out.2.2.2.2
         refine wp_region_later (by kernel_rfl) (by kernel_rfl) ?_
         repeat (first|go_big_quiet_step (((first|(go_at_call 53;with_reducible refine Later.call (HVAL _).out)|(go_at_call 53;with_reducible refine Later.call (HVBL _).out))))|quiet_step (((first|(go_at_call 53;with_reducible refine Later.call (HVAL _).out)|(go_at_call 53;with_reducible refine Later.call (HVBL _).out)))))
         refine wpQuiet_nil ?_
         intro w20 hw20
         have hb20:=later_below hw20
         clear hw20
         have HB2:=Lib.hid (below_next HB2.out (Nat.le_trans HBW2.out HB2.out.size) hb20)
         clear x20_0 x20_1 x20_2 x20_3 x20_4
         clear q15_0 q15_1 q15_2 q15_3 q15_4 r15_0 r15_1
         obtain⟨q20_0,q20_1,q20_2,q20_3,q20_4⟩:=(HC2 _ HB2.out).out
         skip
         clear hb20
         have r20_0:=Nat.lt_of_lt_of_le (show w.heap.size<W2.heap.size by have h0:w.heap.size<W.heap.size:=(by have:=HWs.out;omega);have h2:=HB.out.size;have h3:=HW2.out.size;omega) HB2.out.size
         have r20_1:=Nat.lt_of_lt_of_le (show wq.heap.size<W2.heap.size by have:=HWs2.out;omega) HB2.out.size
         go_wp2_with fail
         go_meet
         exact⟨by simp,by rw[hbd];simp,HB2.out⟩
      ·obtain⟨m,rfl⟩: ∃m,n=m+1:=⟨n - 1,by omega⟩
       obtain⟨u,hu⟩: ∃u,p.es[m]? =some u:=⟨_,List.getElem?_eq_getElem (by have:=HM.out;omega)⟩
       have HUM:=Lib.hid hu
       rw[eid_suc hu] at hbd
       clear hu
       have hm1:m<en:=by omega
       have hm2:(0:Int)<(m:Int)+1:=by omega
       by_cases c1:e.id<1
       ·refine wp_name (fun c21 hc21=> ?_)
        have HB2:=Lib.hid (below_name (below_next HB2.out (Nat.le_trans HBW2.out HB2.out.size) (by repeat (first|exact Below.refl _ _|refine below_alloc ?_))) hc21)
        have YB:=fun(x:Later c21)=>HX2.out.trans ((HB2.out.trans (x.2.mono HB2.out.size)).mono HX2.out.size);have HVAL:=fun(x:Later c21)=>HVA x.1 (YB x);have HVBL:=fun(x:Later c21)=>HVB x.1 (YB x);have y9:=fun(x:Later c21)=>(HCE x.1 (YB x) m u HUM.out).out.1;clear YB
        clear hc21
        have x21_0:=fun(x:Later c21)=>(HC2 _ (below_next HB2.out (Nat.le_trans HBW2.out HB2.out.size) x.2)).out.1
        have x21_1:=fun(x:Later c21)=>(HC2 _ (below_next HB2.out (Nat.le_trans HBW2.out HB2.out.size) x.2)).out.2.1
        have x21_2:=fun(x:Later c21)=>(HC2 _ (below_next HB2.out (Nat.le_trans HBW2.out HB2.out.size) x.2)).out.2.2.1
        have x21_3:=fun(x:Later c21)=>(HC2 _ (below_next HB2.out (Nat.le_trans HBW2.out HB2.out.size) x.2)).out.2.2.2.1
        have x21_4:=fun(x:Later c21)=>(HC2 _ (below_next HB2.out (Nat.le_trans HBW2.out HB2.out.size) x.2)).out.2.2.2.2
        refine wp_region_later (by kernel_rfl) (by kernel_rfl) ?_
        repeat (first|go_big_quiet_step (((first|(go_at_call 53;with_reducible refine Later.call (HVAL _).out)|(go_at_call 53;with_reducible refine Later.call (HVBL _).out))))|quiet_step (((first|(go_at_call 53;with_reducible refine Later.call (HVAL _).out)|(go_at_call 53;with_reducible refine Later.call (HVBL _).out)))))
        refine wpQuiet_nil ?_
        intro w21 hw21
        have hb21:=later_below hw21
        clear hw21
        have HB2:=Lib.hid (below_next HB2.out (Nat.le_trans HBW2.out HB2.out.size) hb21)
        clear x21_0 x21_1 x21_2 x21_3 x21_4
        clear q15_0 q15_1 q15_2 q15_3 q15_4 r15_0 r15_1
        obtain⟨q21_0,q21_1,q21_2,q21_3,q21_4⟩:=(HC2 _ HB2.out).out
        skip
        clear hb21
        have r21_0:=Nat.lt_of_lt_of_le (show w.heap.size<W2.heap.size by have h0:w.heap.size<W.heap.size:=(by have:=HWs.out;omega);have h2:=HB.out.size;have h3:=HW2.out.size;omega) HB2.out.size
        have r21_1:=Nat.lt_of_lt_of_le (show wq.heap.size<W2.heap.size by have:=HWs2.out;omega) HB2.out.size
        go_wp2_with fail
        go_meet
        exact⟨by simp,by rw[hbd,decide_eq_true (show e.id<1 by omega)];simp,HB2.out⟩
       ·rw[decide_eq_false c1] at hbd
        by_cases c2:e.id≤u.id
        ·refine wp_name (fun c22 hc22=> ?_)
         have HB2:=Lib.hid (below_name (below_next HB2.out (Nat.le_trans HBW2.out HB2.out.size) (by repeat (first|exact Below.refl _ _|refine below_alloc ?_))) hc22)
         have YB:=fun(x:Later c22)=>HX2.out.trans ((HB2.out.trans (x.2.mono HB2.out.size)).mono HX2.out.size);have HVAL:=fun(x:Later c22)=>HVA x.1 (YB x);have HVBL:=fun(x:Later c22)=>HVB x.1 (YB x);have y9:=fun(x:Later c22)=>(HCE x.1 (YB x) m u HUM.out).out.1;clear YB
         clear hc22
         have x22_0:=fun(x:Later c22)=>(HC2 _ (below_next HB2.out (Nat.le_trans HBW2.out HB2.out.size) x.2)).out.1
         have x22_1:=fun(x:Later c22)=>(HC2 _ (below_next HB2.out (Nat.le_trans HBW2.out HB2.out.size) x.2)).out.2.1
         have x22_2:=fun(x:Later c22)=>(HC2 _ (below_next HB2.out (Nat.le_trans HBW2.out HB2.out.size) x.2)).out.2.2.1
         have x22_3:=fun(x:Later c22)=>(HC2 _ (below_next HB2.out (Nat.le_trans HBW2.out HB2.out.size) x.2)).out.2.2.2.1
         have x22_4:=fun(x:Later c22)=>(HC2 _ (below_next HB2.out (Nat.le_trans HBW2.out HB2.out.size) x.2)).out.2.2.2.2
         refine wp_region_later (by kernel_rfl) (by kernel_rfl) ?_
         repeat (first|go_big_quiet_step (((first|(go_at_call 53;with_reducible refine Later.call (HVAL _).out)|(go_at_call 53;with_reducible refine Later.call (HVBL _).out))))|quiet_step (((first|(go_at_call 53;with_reducible refine Later.call (HVAL _).out)|(go_at_call 53;with_reducible refine Later.call (HVBL _).out)))))
         refine wpQuiet_nil ?_
         intro w22 hw22
         have hb22:=later_below hw22
         clear hw22
         have HB2:=Lib.hid (below_next HB2.out (Nat.le_trans HBW2.out HB2.out.size) hb22)
         clear x22_0 x22_1 x22_2 x22_3 x22_4
         clear q15_0 q15_1 q15_2 q15_3 q15_4 r15_0 r15_1
         obtain⟨q22_0,q22_1,q22_2,q22_3,q22_4⟩:=(HC2 _ HB2.out).out
         skip
         clear hb22
         have r22_0:=Nat.lt_of_lt_of_le (show w.heap.size<W2.heap.size by have h0:w.heap.size<W.heap.size:=(by have:=HWs.out;omega);have h2:=HB.out.size;have h3:=HW2.out.size;omega) HB2.out.size
         have r22_1:=Nat.lt_of_lt_of_le (show wq.heap.size<W2.heap.size by have:=HWs2.out;omega) HB2.out.size
         go_wp2_with fail
         go_meet
         exact⟨by simp,by rw[hbd,decide_eq_true (show e.id≤u.id by omega)];simp,HB2.out⟩
        ·rw[decide_eq_false c2] at hbd
         cases c3:(e.a==e.b)
         ·have c3':decide (e.a=e.b)=false:=by simpa using c3
          rw[c3'] at hbd
          clear c3'
          rcases hxa with ⟨h1,h2⟩|⟨h1,h2⟩
          ·rw[h1] at hbd
           clear h1
           rcases hxb with ⟨h3,h4⟩|⟨h3,h4⟩
           ·rw[h3] at hbd
            clear h3
            refine wp_name (fun c23 hc23=> ?_)
            have HB2:=Lib.hid (below_name (below_next HB2.out (Nat.le_trans HBW2.out HB2.out.size) (by repeat (first|exact Below.refl _ _|refine below_alloc ?_))) hc23)
            have YB:=fun(x:Later c23)=>HX2.out.trans ((HB2.out.trans (x.2.mono HB2.out.size)).mono HX2.out.size);have HVAL:=fun(x:Later c23)=>HVA x.1 (YB x);have HVBL:=fun(x:Later c23)=>HVB x.1 (YB x);have y9:=fun(x:Later c23)=>(HCE x.1 (YB x) m u HUM.out).out.1;clear YB
            clear hc23
            have x23_0:=fun(x:Later c23)=>(HC2 _ (below_next HB2.out (Nat.le_trans HBW2.out HB2.out.size) x.2)).out.1
            have x23_1:=fun(x:Later c23)=>(HC2 _ (below_next HB2.out (Nat.le_trans HBW2.out HB2.out.size) x.2)).out.2.1
            have x23_2:=fun(x:Later c23)=>(HC2 _ (below_next HB2.out (Nat.le_trans HBW2.out HB2.out.size) x.2)).out.2.2.1
            have x23_3:=fun(x:Later c23)=>(HC2 _ (below_next HB2.out (Nat.le_trans HBW2.out HB2.out.size) x.2)).out.2.2.2.1
            have x23_4:=fun(x:Later c23)=>(HC2 _ (below_next HB2.out (Nat.le_trans HBW2.out HB2.out.size) x.2)).out.2.2.2.2
            refine wp_region_later (by kernel_rfl) (by kernel_rfl) ?_
            repeat (first|go_big_quiet_step (((first|(go_at_call 53;with_reducible refine Later.call (HVAL _).out)|(go_at_call 53;with_reducible refine Later.call (HVBL _).out))))|quiet_step (((first|(go_at_call 53;with_reducible refine Later.call (HVAL _).out)|(go_at_call 53;with_reducible refine Later.call (HVBL _).out)))))
            refine wpQuiet_nil ?_
            intro w23 hw23
            have hb23:=later_below hw23
            clear hw23
            have HB2:=Lib.hid (below_next HB2.out (Nat.le_trans HBW2.out HB2.out.size) hb23)
            clear x23_0 x23_1 x23_2 x23_3 x23_4
            clear q15_0 q15_1 q15_2 q15_3 q15_4 r15_0 r15_1
            obtain⟨q23_0,q23_1,q23_2,q23_3,q23_4⟩:=(HC2 _ HB2.out).out
            skip
            clear hb23
            have r23_0:=Nat.lt_of_lt_of_le (show w.heap.size<W2.heap.size by have h0:w.heap.size<W.heap.size:=(by have:=HWs.out;omega);have h2:=HB.out.size;have h3:=HW2.out.size;omega) HB2.out.size
            have r23_1:=Nat.lt_of_lt_of_le (show wq.heap.size<W2.heap.size by have:=HWs2.out;omega) HB2.out.size
            go_wp2_with fail
            go_meet
            exact⟨by simp,by rw[hbd];simp,HB2.out⟩
           ·rw[h3] at hbd
            clear h3
            refine wp_name (fun c24 hc24=> ?_)
            have HB2:=Lib.hid (below_name (below_next HB2.out (Nat.le_trans HBW2.out HB2.out.size) (by repeat (first|exact Below.refl _ _|refine below_alloc ?_))) hc24)
            have YB:=fun(x:Later c24)=>HX2.out.trans ((HB2.out.trans (x.2.mono HB2.out.size)).mono HX2.out.size);have HVAL:=fun(x:Later c24)=>HVA x.1 (YB x);have HVBL:=fun(x:Later c24)=>HVB x.1 (YB x);have y9:=fun(x:Later c24)=>(HCE x.1 (YB x) m u HUM.out).out.1;clear YB
            clear hc24
            have x24_0:=fun(x:Later c24)=>(HC2 _ (below_next HB2.out (Nat.le_trans HBW2.out HB2.out.size) x.2)).out.1
            have x24_1:=fun(x:Later c24)=>(HC2 _ (below_next HB2.out (Nat.le_trans HBW2.out HB2.out.size) x.2)).out.2.1
            have x24_2:=fun(x:Later c24)=>(HC2 _ (below_next HB2.out (Nat.le_trans HBW2.out HB2.out.size) x.2)).out.2.2.1
            have x24_3:=fun(x:Later c24)=>(HC2 _ (below_next HB2.out (Nat.le_trans HBW2.out HB2.out.size) x.2)).out.2.2.2.1
            have x24_4:=fun(x:Later c24)=>(HC2 _ (below_next HB2.out (Nat.le_trans HBW2.out HB2.out.size) x.2)).out.2.2.2.2
            refine wp_region_later (by kernel_rfl) (by kernel_rfl) ?_
            repeat (first|go_big_quiet_step (((first|(go_at_call 53;with_reducible refine Later.call (HVAL _).out)|(go_at_call 53;with_reducible refine Later.call (HVBL _).out))))|quiet_step (((first|(go_at_call 53;with_reducible refine Later.call (HVAL _).out)|(go_at_call 53;with_reducible refine Later.call (HVBL _).out)))))
            refine wpQuiet_nil ?_
            intro w24 hw24
            have hb24:=later_below hw24
            clear hw24
            have HB2:=Lib.hid (below_next HB2.out (Nat.le_trans HBW2.out HB2.out.size) hb24)
            clear x24_0 x24_1 x24_2 x24_3 x24_4
            clear q15_0 q15_1 q15_2 q15_3 q15_4 r15_0 r15_1
            obtain⟨q24_0,q24_1,q24_2,q24_3,q24_4⟩:=(HC2 _ HB2.out).out
            skip
            clear hb24
            have r24_0:=Nat.lt_of_lt_of_le (show w.heap.size<W2.heap.size by have h0:w.heap.size<W.heap.size:=(by have:=HWs.out;omega);have h2:=HB.out.size;have h3:=HW2.out.size;omega) HB2.out.size
            have r24_1:=Nat.lt_of_lt_of_le (show wq.heap.size<W2.heap.size by have:=HWs2.out;omega) HB2.out.size
            go_wp2_with fail
            go_meet
            exact⟨by simp,by rw[hbd];simp,HB2.out⟩
          ·rw[h1] at hbd
           clear h1 hxb
           refine wp_name (fun c25 hc25=> ?_)
           have HB2:=Lib.hid (below_name (below_next HB2.out (Nat.le_trans HBW2.out HB2.out.size) (by repeat (first|exact Below.refl _ _|refine below_alloc ?_))) hc25)
           have YB:=fun(x:Later c25)=>HX2.out.trans ((HB2.out.trans (x.2.mono HB2.out.size)).mono HX2.out.size);have HVAL:=fun(x:Later c25)=>HVA x.1 (YB x);have HVBL:=fun(x:Later c25)=>HVB x.1 (YB x);have y9:=fun(x:Later c25)=>(HCE x.1 (YB x) m u HUM.out).out.1;clear YB
           clear hc25
           have x25_0:=fun(x:Later c25)=>(HC2 _ (below_next HB2.out (Nat.le_trans HBW2.out HB2.out.size) x.2)).out.1
           have x25_1:=fun(x:Later c25)=>(HC2 _ (below_next HB2.out (Nat.le_trans HBW2.out HB2.out.size) x.2)).out.2.1
           have x25_2:=fun(x:Later c25)=>(HC2 _ (below_next HB2.out (Nat.le_trans HBW2.out HB2.out.size) x.2)).out.2.2.1
           have x25_3:=fun(x:Later c25)=>(HC2 _ (below_next HB2.out (Nat.le_trans HBW2.out HB2.out.size) x.2)).out.2.2.2.1
           have x25_4:=fun(x:Later c25)=>(HC2 _ (below_next HB2.out (Nat.le_trans HBW2.out HB2.out.size) x.2)).out.2.2.2.2
           refine wp_region_later (by kernel_rfl) (by kernel_rfl) ?_
           repeat (first|go_big_quiet_step (((first|(go_at_call 53;with_reducible refine Later.call (HVAL _).out)|(go_at_call 53;with_reducible refine Later.call (HVBL _).out))))|quiet_step (((first|(go_at_call 53;with_reducible refine Later.call (HVAL _).out)|(go_at_call 53;with_reducible refine Later.call (HVBL _).out)))))
           refine wpQuiet_nil ?_
           intro w25 hw25
           have hb25:=later_below hw25
           clear hw25
           have HB2:=Lib.hid (below_next HB2.out (Nat.le_trans HBW2.out HB2.out.size) hb25)
           clear x25_0 x25_1 x25_2 x25_3 x25_4
           clear q15_0 q15_1 q15_2 q15_3 q15_4 r15_0 r15_1
           obtain⟨q25_0,q25_1,q25_2,q25_3,q25_4⟩:=(HC2 _ HB2.out).out
           skip
           clear hb25
           have r25_0:=Nat.lt_of_lt_of_le (show w.heap.size<W2.heap.size by have h0:w.heap.size<W.heap.size:=(by have:=HWs.out;omega);have h2:=HB.out.size;have h3:=HW2.out.size;omega) HB2.out.size
           have r25_1:=Nat.lt_of_lt_of_le (show wq.heap.size<W2.heap.size by have:=HWs2.out;omega) HB2.out.size
           go_wp2_with fail
           go_meet
           exact⟨by simp,by rw[hbd];simp,HB2.out⟩
         ·have c3':decide (e.a=e.b)=true:=by simpa using c3
          rw[c3'] at hbd
          clear c3' hxa hxb
          refine wp_name (fun c26 hc26=> ?_)
          have HB2:=Lib.hid (below_name (below_next HB2.out (Nat.le_trans HBW2.out HB2.out.size) (by repeat (first|exact Below.refl _ _|refine below_alloc ?_))) hc26)
          have YB:=fun(x:Later c26)=>HX2.out.trans ((HB2.out.trans (x.2.mono HB2.out.size)).mono HX2.out.size);have HVAL:=fun(x:Later c26)=>HVA x.1 (YB x);have HVBL:=fun(x:Later c26)=>HVB x.1 (YB x);have y9:=fun(x:Later c26)=>(HCE x.1 (YB x) m u HUM.out).out.1;clear YB
          clear hc26
          have x26_0:=fun(x:Later c26)=>(HC2 _ (below_next HB2.out (Nat.le_trans HBW2.out HB2.out.size) x.2)).out.1
          have x26_1:=fun(x:Later c26)=>(HC2 _ (below_next HB2.out (Nat.le_trans HBW2.out HB2.out.size) x.2)).out.2.1
          have x26_2:=fun(x:Later c26)=>(HC2 _ (below_next HB2.out (Nat.le_trans HBW2.out HB2.out.size) x.2)).out.2.2.1
          have x26_3:=fun(x:Later c26)=>(HC2 _ (below_next HB2.out (Nat.le_trans HBW2.out HB2.out.size) x.2)).out.2.2.2.1
          have x26_4:=fun(x:Later c26)=>(HC2 _ (below_next HB2.out (Nat.le_trans HBW2.out HB2.out.size) x.2)).out.2.2.2.2
          refine wp_region_later (by kernel_rfl) (by kernel_rfl) ?_
          repeat (first|go_big_quiet_step (((first|(go_at_call 53;with_reducible refine Later.call (HVAL _).out)|(go_at_call 53;with_reducible refine Later.call (HVBL _).out))))|quiet_step (((first|(go_at_call 53;with_reducible refine Later.call (HVAL _).out)|(go_at_call 53;with_reducible refine Later.call (HVBL _).out)))))
          refine wpQuiet_nil ?_
          intro w26 hw26
          have hb26:=later_below hw26
          clear hw26
          have HB2:=Lib.hid (below_next HB2.out (Nat.le_trans HBW2.out HB2.out.size) hb26)
          clear x26_0 x26_1 x26_2 x26_3 x26_4
          clear q15_0 q15_1 q15_2 q15_3 q15_4 r15_0 r15_1
          obtain⟨q26_0,q26_1,q26_2,q26_3,q26_4⟩:=(HC2 _ HB2.out).out
          skip
          clear hb26
          have r26_0:=Nat.lt_of_lt_of_le (show w.heap.size<W2.heap.size by have h0:w.heap.size<W.heap.size:=(by have:=HWs.out;omega);have h2:=HB.out.size;have h3:=HW2.out.size;omega) HB2.out.size
          have r26_1:=Nat.lt_of_lt_of_le (show wq.heap.size<W2.heap.size by have:=HWs2.out;omega) HB2.out.size
          go_wp2_with fail
          go_meet
          exact⟨by simp,by rw[hbd];simp,HB2.out⟩
     case rest=>
     obtain⟨rfl,rfl,hbx⟩:=hcut
     have HB2:=Lib.hid hbx
     clear hbx
     have HBO:=Lib.hid (HB.out.trans ((HW2.out.trans (HB2.out.mono HW2.out.size)).mono HB.out.size))
     cases hbad:badE p.vs p.es n e
     ·have HBAD:=Lib.hid hbad
      have hE:=badE_has hbad
      have hnc:n≤ec:=by omega
      have HEI:=Lib.hid (EdIn.of HVO.out hE.1 hE.2.1 hE.2.2)
      clear hbad hE
      clear q15_0 q15_1 q15_2 q15_3 q15_4 r15_0 r15_1
      obtain⟨q27_0,q27_1,q27_2,q27_3,q27_4⟩:=(HC2 _ HB2.out).out
      have r27_0:=Nat.lt_of_lt_of_le (show w.heap.size<W2.heap.size by have h0:w.heap.size<W.heap.size:=(by have:=HWs.out;omega);have h2:=HB.out.size;have h3:=HW2.out.size;omega) HB2.out.size
      have r27_1:=Nat.lt_of_lt_of_le (show wq.heap.size<W2.heap.size by have:=HWs2.out;omega) HB2.out.size
      go_wp2_with fail
      clear q27_0 q27_1 q27_2 q27_3 q27_4 r27_0 r27_1
      have HY:=fun(w':World) (t:Below wc.heap.size wc w')=>Lib.hid (show w'.cell? ⟨w.heap.size,0,none⟩=some (.slice va vn vc)∧w'.cell? ⟨w.heap.size,1,none⟩=some (.slice (some ⟨eb,eoff,none⟩) en ec) from(HC _ (HBO.out.trans (t.mono HBO.out.size))).out)
      have HS0:=Lib.hid (Below.refl wc.heap.size wc).drew
      refine wp_region_noPanic ?_
      refine wp_region_par3 8 8 (by kernel_rfl) (by kernel_rfl) (by simp) (by omega) (by kernel_rfl) (by kernel_rfl) (fun w':World=>Below wc.heap.size wc w') ?_
      refine par3_move (v:= ?_) 0 (by simp only[zga,zgb,zgc];rfl) (by kernel_rfl) (by rfl) ?_ (fun _ _ _ h=>h) ?_
      rotate_left
      ·(intro w9;go_simp;try with_reducible rfl)
      simp only[Act.put,zpa,zpb,zpc]
      refine par3_read (v:= ?_) 1 (by simp only[zga,zgb,zgc];rfl) (by kernel_rfl) (by rfl) HS0.out ?_ (fun _ _ _ h=>h) ?_
      rotate_left
      ·(intro w9 hSw;obtain⟨y0,y1⟩:=(HY w9 hSw).out;clear hSw;go_simp;try with_reducible rfl)
      simp only[Act.put,zpa,zpb,zpc]
      refine par3_move (v:= ?_) 2 (by simp only[zga,zgb,zgc];rfl) (by kernel_rfl) (by rfl) ?_ (fun _ _ _ h=>h) ?_
      rotate_left
      ·(intro w9;go_simp;try with_reducible rfl)
      simp only[Act.put,zpa,zpb,zpc]
      refine par3_read (v:= ?_) 3 (by simp only[zga,zgb,zgc];rfl) (by kernel_rfl) (by rfl) HS0.out ?_ (fun _ _ _ h=>h) ?_
      rotate_left
      ·(intro w9 hSw;obtain⟨y0,y1⟩:=(HY w9 hSw).out;clear hSw;go_simp;try with_reducible rfl)
      simp only[Act.put,zpa,zpb,zpc]
      refine par3_move (v:= ?_) 4 (by simp only[zga,zgb,zgc];rfl) (by kernel_rfl) (by rfl) ?_ (fun _ _ _ h=>h) ?_
      rotate_left
      ·(intro w9;go_simp;try with_reducible rfl)
      simp only[Act.put,zpa,zpb,zpc]
      refine par3_move (v:= ?_) 5 (by simp only[zga,zgb,zgc];rfl) (by kernel_rfl) (by rfl) ?_ (fun _ _ _ h=>h) ?_
      rotate_left
      ·(intro w9;go_simp;try with_reducible rfl)
      simp only[Act.put,zpa,zpb,zpc]
      refine par3_move (v:= ?_) 6 (by simp only[zga,zgb,zgc];rfl) (by kernel_rfl) (by rfl) ?_ (fun _ _ _ h=>h) ?_
      rotate_left
      ·(intro w9;go_simp;try with_reducible rfl)
      simp only[Act.put,zpa,zpb,zpc]
      refine par3_nm (fun W8 hW8=> ?_)
      rw[←hW8] at HS0
      clear hW8
      refine par3_one 7 (by simp only[zga,zgb,zgc];rfl) (by kernel_rfl) (by rfl) ?_
      refine owp_val (v:= ?_) (w1:= ?_) ?_ ?_
      rotate_left 2
      ·(go_simp;constructor<;>rfl)
      refine⟨fun s _=>s.alloc s.size _, ?_⟩
      simp only[Act.put,zpa,zpb,zpc]
      refine par3_tail _ (by simp only[List.drop_succ_cons,List.drop_zero];rfl) (by kernel_rfl) ?_
      go_wp2_with fail
      refine NoPanic.normal ?_
      go_upto_region 21 with fail
      have HB2:=Lib.hid (HB2.out.trans (HS0.out.mono HB2.out.size))
      first|refine wp_name (fun W3 hW3=> ?_)|refine calls_name (fun W3 hW3=> ?_)
      have HW3:Hid (Below W8.heap.size W8 W3):=Lib.hid (by rw[←hW3];repeat (first|exact Below.refl _ _|refine below_alloc ?_))
      have HWs3:Hid (W3.heap.size=W8.heap.size+1):=Lib.hid (by rw[←hW3];simp)
      have HBW3:Hid (W3.heap.size≤W3.heap.size):=Lib.hid (by have:=HWs3.out;omega)
      have HC3:=fun(W1:World) (hb:Below (W3.heap.size) W3 W1)=>Lib.hid (show W1.cell? ⟨w.heap.size,0,none⟩=some (.slice va vn vc)∧W1.cell? ⟨w.heap.size,1,none⟩=some (.slice (some ⟨eb,eoff,none⟩) en ec)∧W1.cell? ⟨wq.heap.size,0,none⟩=some (.int .i64 e.id)∧W1.cell? ⟨wq.heap.size,1,none⟩=some (.int .i64 e.a)∧W1.cell? ⟨wq.heap.size,2,none⟩=some (.int .i64 e.b)∧W1.cell? ⟨W8.heap.size,0,none⟩=some (.slice va vn vc)∧W1.cell? ⟨W8.heap.size,1,none⟩=some (.slice (some ⟨eb,eoff,none⟩) n ec) from by have ho:=(HC2 W1 (in_of HB2.out HW3.out hb (Nat.le_trans HBW2.out HB2.out.size) (by have h1:=HBW2.out;have h2:=HB2.out.size;have h3:=HW3.out.size;have h4:=HWs3.out;omega))).out;exact⟨ho.1,ho.2.1,ho.2.2.1,ho.2.2.2.1,ho.2.2.2.2,(hb.cell (p:=⟨W8.heap.size,0,none⟩) (by show W8.heap.size<W3.heap.size;have:=HWs3.out;omega)).trans (by rw[←hW3];clear hW3;go_simp),(hb.cell (p:=⟨W8.heap.size,1,none⟩) (by show W8.heap.size<W3.heap.size;have:=HWs3.out;omega)).trans (by rw[←hW3];clear hW3;go_simp)⟩)
      have HB3:=Lib.hid (Below.refl (W3.heap.size) W3)
      clear hW3
      obtain⟨q28_0,q28_1,q28_2,q28_3,q28_4,q28_5,q28_6⟩:=(HC3 _ HB3.out).out
      have r28_0:=Nat.lt_of_lt_of_le (show w.heap.size<W3.heap.size by have h0:w.heap.size<W2.heap.size:=(by have h0:w.heap.size<W.heap.size:=(by have:=HWs.out;omega);have h2:=HB.out.size;have h3:=HW2.out.size;omega);have h2:=HB2.out.size;have h3:=HW3.out.size;omega) HB3.out.size
      have r28_1:=Nat.lt_of_lt_of_le (show wq.heap.size<W3.heap.size by have h0:wq.heap.size<W2.heap.size:=(by have:=HWs2.out;omega);have h2:=HB2.out.size;have h3:=HW3.out.size;omega) HB3.out.size
      have r28_2:=Nat.lt_of_lt_of_le (show W8.heap.size<W3.heap.size by have:=HWs3.out;omega) HB3.out.size
      have HX3:=Lib.hid (below_step HW3.out (HX2.out.trans (HB2.out.mono HX2.out.size)))
      clear HY HS0 HBO
      have HLK:=fun(W1:World) (hb:Below w.heap.size w W1)=>Lib.hid (r15links_any (w:=W1) (ec:=ec) ((HE.out.take hn).below (hb.mono hB)) (Nat.le_trans hB hb.size) (by omega) (.slice va vn vc) ⟨_,_,_,rfl⟩ e.a e.b)
      have HAA:=fun(W1:World) (hb:Below w.heap.size w W1)=>Lib.hid (r15at_any (w:=W1) (vc:=vc) (HV.out.below (hb.mono hB)) (Nat.le_trans hB hb.size) (by omega) (.slice (some ⟨eb,eoff,none⟩) en ec) ⟨_,_,_,rfl⟩ e.a HEI.out.va)
      have HAB:=fun(W1:World) (hb:Below w.heap.size w W1)=>Lib.hid (r15at_any (w:=W1) (vc:=vc) (HV.out.below (hb.mono hB)) (Nat.le_trans hB hb.size) (by omega) (.slice (some ⟨eb,eoff,none⟩) en ec) ⟨_,_,_,rfl⟩ e.b HEI.out.vb)
      have HON:=fun(W1:World) (hb:Below w.heap.size w W1)=>Lib.hid (r15on_any (w:=W1) (vc:=vc) (HV.out.below (hb.mono hB)) (Nat.le_trans hB hb.size) (by omega) (.slice (some ⟨eb,eoff,none⟩) en ec) ⟨_,_,_,rfl⟩ (findV p.vs e.a).at_ (findV p.vs e.b).at_ (fun v hv=>by
       obtain⟨i,hi⟩:=List.mem_iff_getElem?.1 hv
       exact(HVO.out i v hi).inr) HEI.out.ia HEI.out.ib)
      have HME:=fun(W1:World) (hb:Below w.heap.size w W1)=>Lib.hid (r15meets_any (w:=W1) (vc:=vc) (ec:=ec) (HV.out.below (hb.mono hB)) (HE.out.below (hb.mono hB)) (Nat.le_trans hB hb.size) (by omega) (by omega) (findV p.vs e.a).at_ (findV p.vs e.b).at_ HEI.out.ia HEI.out.ib HEI.out.ne (n:=n) hn (fun i f hi hf=>by
       obtain⟨A,B,ho⟩:=HA.out i f hi hf
       exact EdIn.of HVO.out (hasV_iff.2 ⟨A,ho.pa⟩) (hasV_iff.2 ⟨B,ho.pb⟩) ho.ab))
      go_cut [6,159] (fun kv pv wx=>kv= .int .i64 n∧pv= .bool (badW p.vs p.es n e)∧Below W3.heap.size W3 wx)
      case first=>
       have hbd:badW p.vs p.es n e=(((p.es.take n).any (linkB e.a e.b)||p.vs.any fun v=>onB v.at_ (findV p.vs e.a).at_ (findV p.vs e.b).at_)||(p.es.take n).any fun f=>meetB (findV p.vs e.a).at_ (findV p.vs e.b).at_ (findV p.vs f.a).at_ (findV p.vs f.b).at_):=rfl
       obtain⟨L,hL⟩: ∃x,x=(p.es.take n).any (linkB e.a e.b):=⟨_,rfl⟩
       obtain⟨O,hO⟩: ∃x,x=p.vs.any fun v=>onB v.at_ (findV p.vs e.a).at_ (findV p.vs e.b).at_:=⟨_,rfl⟩
       obtain⟨M,hM⟩: ∃x,x=(p.es.take n).any fun f=>meetB (findV p.vs e.a).at_ (findV p.vs e.b).at_ (findV p.vs f.a).at_ (findV p.vs f.b).at_:=⟨_,rfl⟩
       rw[←hL] at HLK hbd
       rw[←hO] at HON hbd
       rw[←hM] at HME hbd
       clear hL hO hM HEI
       generalize (findV p.vs e.a).at_=A at HAA HON HME
       generalize (findV p.vs e.b).at_=D at HAB HON HME
       cases L
       ·cases O
        ·refine wp_name (fun c29 hc29=> ?_)
         have HB3:=Lib.hid (below_name (below_next HB3.out (Nat.le_trans HBW3.out HB3.out.size) (by repeat (first|exact Below.refl _ _|refine below_alloc ?_))) hc29)
         have YB:=fun(x:Later c29)=>HX3.out.trans ((HB3.out.trans (x.2.mono HB3.out.size)).mono HX3.out.size);have HLKL:=fun(x:Later c29)=>HLK x.1 (YB x);have HAAL:=fun(x:Later c29)=>HAA x.1 (YB x);have HABL:=fun(x:Later c29)=>HAB x.1 (YB x);have HONL:=fun(x:Later c29)=>HON x.1 (YB x);have HMEL:=fun(x:Later c29)=>HME x.1 (YB x);clear YB
         clear hc29
         have x29_0:=fun(x:Later c29)=>(HC3 _ (below_next HB3.out (Nat.le_trans HBW3.out HB3.out.size) x.2)).out.1
         have x29_1:=fun(x:Later c29)=>(HC3 _ (below_next HB3.out (Nat.le_trans HBW3.out HB3.out.size) x.2)).out.2.1
         have x29_2:=fun(x:Later c29)=>(HC3 _ (below_next HB3.out (Nat.le_trans HBW3.out HB3.out.size) x.2)).out.2.2.1
         have x29_3:=fun(x:Later c29)=>(HC3 _ (below_next HB3.out (Nat.le_trans HBW3.out HB3.out.size) x.2)).out.2.2.2.1
         have x29_4:=fun(x:Later c29)=>(HC3 _ (below_next HB3.out (Nat.le_trans HBW3.out HB3.out.size) x.2)).out.2.2.2.2.1
         have x29_5:=fun(x:Later c29)=>(HC3 _ (below_next HB3.out (Nat.le_trans HBW3.out HB3.out.size) x.2)).out.2.2.2.2.2.1
         have x29_6:=fun(x:Later c29)=>(HC3 _ (below_next HB3.out (Nat.le_trans HBW3.out HB3.out.size) x.2)).out.2.2.2.2.2.2
         refine wp_region_later (by kernel_rfl) (by kernel_rfl) ?_
         repeat (first|go_big_quiet_step (((first|(go_at_call 54;with_reducible refine Later.call (HLKL _).out)|(go_at_call 26;with_reducible refine Later.call (HAAL _).out)|(go_at_call 26;with_reducible refine Later.call (HABL _).out)|(go_at_call 55;with_reducible refine Later.call (HONL _).out)|(go_at_call 56;with_reducible refine Later.call (HMEL _).out))))|quiet_step (((first|(go_at_call 54;with_reducible refine Later.call (HLKL _).out)|(go_at_call 26;with_reducible refine Later.call (HAAL _).out)|(go_at_call 26;with_reducible refine Later.call (HABL _).out)|(go_at_call 55;with_reducible refine Later.call (HONL _).out)|(go_at_call 56;with_reducible refine Later.call (HMEL _).out)))))
         refine wpQuiet_nil ?_
         intro w29 hw29
         have hb29:=later_below hw29
         clear hw29
         have HB3:=Lib.hid (below_next HB3.out (Nat.le_trans HBW3.out HB3.out.size) hb29)
         clear x29_0 x29_1 x29_2 x29_3 x29_4 x29_5 x29_6
         clear q28_0 q28_1 q28_2 q28_3 q28_4 q28_5 q28_6 r28_0 r28_1 r28_2
         obtain⟨q29_0,q29_1,q29_2,q29_3,q29_4,q29_5,q29_6⟩:=(HC3 _ HB3.out).out
         skip
         clear hb29
         have r29_0:=Nat.lt_of_lt_of_le (show w.heap.size<W3.heap.size by have h0:w.heap.size<W2.heap.size:=(by have h0:w.heap.size<W.heap.size:=(by have:=HWs.out;omega);have h2:=HB.out.size;have h3:=HW2.out.size;omega);have h2:=HB2.out.size;have h3:=HW3.out.size;omega) HB3.out.size
         have r29_1:=Nat.lt_of_lt_of_le (show wq.heap.size<W3.heap.size by have h0:wq.heap.size<W2.heap.size:=(by have:=HWs2.out;omega);have h2:=HB2.out.size;have h3:=HW3.out.size;omega) HB3.out.size
         have r29_2:=Nat.lt_of_lt_of_le (show W8.heap.size<W3.heap.size by have:=HWs3.out;omega) HB3.out.size
         go_wp2_with fail
         go_meet
         exact⟨by simp,by rw[hbd];simp,HB3.out⟩
        ·refine wp_name (fun c30 hc30=> ?_)
         have HB3:=Lib.hid (below_name (below_next HB3.out (Nat.le_trans HBW3.out HB3.out.size) (by repeat (first|exact Below.refl _ _|refine below_alloc ?_))) hc30)
         have YB:=fun(x:Later c30)=>HX3.out.trans ((HB3.out.trans (x.2.mono HB3.out.size)).mono HX3.out.size);have HLKL:=fun(x:Later c30)=>HLK x.1 (YB x);have HAAL:=fun(x:Later c30)=>HAA x.1 (YB x);have HABL:=fun(x:Later c30)=>HAB x.1 (YB x);have HONL:=fun(x:Later c30)=>HON x.1 (YB x);have HMEL:=fun(x:Later c30)=>HME x.1 (YB x);clear YB
         clear hc30
         have x30_0:=fun(x:Later c30)=>(HC3 _ (below_next HB3.out (Nat.le_trans HBW3.out HB3.out.size) x.2)).out.1
         have x30_1:=fun(x:Later c30)=>(HC3 _ (below_next HB3.out (Nat.le_trans HBW3.out HB3.out.size) x.2)).out.2.1
         have x30_2:=fun(x:Later c30)=>(HC3 _ (below_next HB3.out (Nat.le_trans HBW3.out HB3.out.size) x.2)).out.2.2.1
         have x30_3:=fun(x:Later c30)=>(HC3 _ (below_next HB3.out (Nat.le_trans HBW3.out HB3.out.size) x.2)).out.2.2.2.1
         have x30_4:=fun(x:Later c30)=>(HC3 _ (below_next HB3.out (Nat.le_trans HBW3.out HB3.out.size) x.2)).out.2.2.2.2.1
         have x30_5:=fun(x:Later c30)=>(HC3 _ (below_next HB3.out (Nat.le_trans HBW3.out HB3.out.size) x.2)).out.2.2.2.2.2.1
         have x30_6:=fun(x:Later c30)=>(HC3 _ (below_next HB3.out (Nat.le_trans HBW3.out HB3.out.size) x.2)).out.2.2.2.2.2.2
         refine wp_region_later (by kernel_rfl) (by kernel_rfl) ?_
         repeat (first|go_big_quiet_step (((first|(go_at_call 54;with_reducible refine Later.call (HLKL _).out)|(go_at_call 26;with_reducible refine Later.call (HAAL _).out)|(go_at_call 26;with_reducible refine Later.call (HABL _).out)|(go_at_call 55;with_reducible refine Later.call (HONL _).out)|(go_at_call 56;with_reducible refine Later.call (HMEL _).out))))|quiet_step (((first|(go_at_call 54;with_reducible refine Later.call (HLKL _).out)|(go_at_call 26;with_reducible refine Later.call (HAAL _).out)|(go_at_call 26;with_reducible refine Later.call (HABL _).out)|(go_at_call 55;with_reducible refine Later.call (HONL _).out)|(go_at_call 56;with_reducible refine Later.call (HMEL _).out)))))
         refine wpQuiet_nil ?_
         intro w30 hw30
         have hb30:=later_below hw30
         clear hw30
         have HB3:=Lib.hid (below_next HB3.out (Nat.le_trans HBW3.out HB3.out.size) hb30)
         clear x30_0 x30_1 x30_2 x30_3 x30_4 x30_5 x30_6
         clear q28_0 q28_1 q28_2 q28_3 q28_4 q28_5 q28_6 r28_0 r28_1 r28_2
         obtain⟨q30_0,q30_1,q30_2,q30_3,q30_4,q30_5,q30_6⟩:=(HC3 _ HB3.out).out
         skip
         clear hb30
         have r30_0:=Nat.lt_of_lt_of_le (show w.heap.size<W3.heap.size by have h0:w.heap.size<W2.heap.size:=(by have h0:w.heap.size<W.heap.size:=(by have:=HWs.out;omega);have h2:=HB.out.size;have h3:=HW2.out.size;omega);have h2:=HB2.out.size;have h3:=HW3.out.size;omega) HB3.out.size
         have r30_1:=Nat.lt_of_lt_of_le (show wq.heap.size<W3.heap.size by have h0:wq.heap.size<W2.heap.size:=(by have:=HWs2.out;omega);have h2:=HB2.out.size;have h3:=HW3.out.size;omega) HB3.out.size
         have r30_2:=Nat.lt_of_lt_of_le (show W8.heap.size<W3.heap.size by have:=HWs3.out;omega) HB3.out.size
         go_wp2_with fail
         go_meet
         exact⟨by simp,by rw[hbd];simp,HB3.out⟩
       ·refine wp_name (fun c31 hc31=> ?_)
        have HB3:=Lib.hid (below_name (below_next HB3.out (Nat.le_trans HBW3.out HB3.out.size) (by repeat (first|exact Below.refl _ _|refine below_alloc ?_))) hc31)
        have YB:=fun(x:Later c31)=>HX3.out.trans ((HB3.out.trans (x.2.mono HB3.out.size)).mono HX3.out.size);have HLKL:=fun(x:Later c31)=>HLK x.1 (YB x);have HAAL:=fun(x:Later c31)=>HAA x.1 (YB x);have HABL:=fun(x:Later c31)=>HAB x.1 (YB x);have HONL:=fun(x:Later c31)=>HON x.1 (YB x);have HMEL:=fun(x:Later c31)=>HME x.1 (YB x);clear YB
        clear hc31
        have x31_0:=fun(x:Later c31)=>(HC3 _ (below_next HB3.out (Nat.le_trans HBW3.out HB3.out.size) x.2)).out.1
        have x31_1:=fun(x:Later c31)=>(HC3 _ (below_next HB3.out (Nat.le_trans HBW3.out HB3.out.size) x.2)).out.2.1
        have x31_2:=fun(x:Later c31)=>(HC3 _ (below_next HB3.out (Nat.le_trans HBW3.out HB3.out.size) x.2)).out.2.2.1
        have x31_3:=fun(x:Later c31)=>(HC3 _ (below_next HB3.out (Nat.le_trans HBW3.out HB3.out.size) x.2)).out.2.2.2.1
        have x31_4:=fun(x:Later c31)=>(HC3 _ (below_next HB3.out (Nat.le_trans HBW3.out HB3.out.size) x.2)).out.2.2.2.2.1
        have x31_5:=fun(x:Later c31)=>(HC3 _ (below_next HB3.out (Nat.le_trans HBW3.out HB3.out.size) x.2)).out.2.2.2.2.2.1
        have x31_6:=fun(x:Later c31)=>(HC3 _ (below_next HB3.out (Nat.le_trans HBW3.out HB3.out.size) x.2)).out.2.2.2.2.2.2
        refine wp_region_later (by kernel_rfl) (by kernel_rfl) ?_
        repeat (first|go_big_quiet_step (((first|(go_at_call 54;with_reducible refine Later.call (HLKL _).out)|(go_at_call 26;with_reducible refine Later.call (HAAL _).out)|(go_at_call 26;with_reducible refine Later.call (HABL _).out)|(go_at_call 55;with_reducible refine Later.call (HONL _).out)|(go_at_call 56;with_reducible refine Later.call (HMEL _).out))))|quiet_step (((first|(go_at_call 54;with_reducible refine Later.call (HLKL _).out)|(go_at_call 26;with_reducible refine Later.call (HAAL _).out)|(go_at_call 26;with_reducible refine Later.call (HABL _).out)|(go_at_call 55;with_reducible refine Later.call (HONL _).out)|(go_at_call 56;with_reducible refine Later.call (HMEL _).out)))))
        refine wpQuiet_nil ?_
        intro w31 hw31
        have hb31:=later_below hw31
        clear hw31
        have HB3:=Lib.hid (below_next HB3.out (Nat.le_trans HBW3.out HB3.out.size) hb31)
        clear x31_0 x31_1 x31_2 x31_3 x31_4 x31_5 x31_6
        clear q28_0 q28_1 q28_2 q28_3 q28_4 q28_5 q28_6 r28_0 r28_1 r28_2
        obtain⟨q31_0,q31_1,q31_2,q31_3,q31_4,q31_5,q31_6⟩:=(HC3 _ HB3.out).out
        skip
        clear hb31
        have r31_0:=Nat.lt_of_lt_of_le (show w.heap.size<W3.heap.size by have h0:w.heap.size<W2.heap.size:=(by have h0:w.heap.size<W.heap.size:=(by have:=HWs.out;omega);have h2:=HB.out.size;have h3:=HW2.out.size;omega);have h2:=HB2.out.size;have h3:=HW3.out.size;omega) HB3.out.size
        have r31_1:=Nat.lt_of_lt_of_le (show wq.heap.size<W3.heap.size by have h0:wq.heap.size<W2.heap.size:=(by have:=HWs2.out;omega);have h2:=HB2.out.size;have h3:=HW3.out.size;omega) HB3.out.size
        have r31_2:=Nat.lt_of_lt_of_le (show W8.heap.size<W3.heap.size by have:=HWs3.out;omega) HB3.out.size
        go_wp2_with fail
        go_meet
        exact⟨by simp,by rw[hbd];simp,HB3.out⟩
      case rest=>
      obtain⟨rfl,rfl,hbx⟩:=hcut
      have HB3:=Lib.hid hbx
      clear hbx
      have hb3:=HW3.out.trans (HB3.out.mono HW3.out.size)
      have hb2:=HB2.out.trans (hb3.mono HB2.out.size)
      have HBO:=Lib.hid (HB.out.trans ((HW2.out.trans (hb2.mono HW2.out.size)).mono HB.out.size))
      clear hb3 hb2
      clear q28_0 q28_1 q28_2 q28_3 q28_4 q28_5 q28_6 r28_0 r28_1 r28_2
      obtain⟨q32_0,q32_1,q32_2,q32_3,q32_4,q32_5,q32_6⟩:=(HC3 _ HB3.out).out
      have r32_0:=Nat.lt_of_lt_of_le (show w.heap.size<W3.heap.size by have h0:w.heap.size<W2.heap.size:=(by have h0:w.heap.size<W.heap.size:=(by have:=HWs.out;omega);have h2:=HB.out.size;have h3:=HW2.out.size;omega);have h2:=HB2.out.size;have h3:=HW3.out.size;omega) HB3.out.size
      have r32_1:=Nat.lt_of_lt_of_le (show wq.heap.size<W3.heap.size by have h0:wq.heap.size<W2.heap.size:=(by have:=HWs2.out;omega);have h2:=HB2.out.size;have h3:=HW3.out.size;omega) HB3.out.size
      have r32_2:=Nat.lt_of_lt_of_le (show W8.heap.size<W3.heap.size by have:=HWs3.out;omega) HB3.out.size
      cases hbw:badW p.vs p.es n e
      ·have HOK:=Lib.hid (badE_ok HBAD.out hbw)
       clear hbw
       go_wp2_with fail
       go_roundw
       case rel=>
        refine⟨n+1,by omega,by go_num,fun i x hi hx=> ?_,HBO.out⟩
        by_cases hik:i<n
        ·exact HA.out i x hik hx
        ·obtain rfl:i=n:=by omega
         rw[HEK.out] at hx
         injection hx with hx
         subst hx
         exact HOK.out
       case measure=>simp[intOf];omega
      ·have F:=Lib.hid (badW_no HEK.out hbw)
       clear hbw
       go_wp2_with fail
       go_ret
       exact⟨by rw[F.out];rfl,HW.out.trans (HBO.out.mono HW.out.size)⟩
     ·have F:=Lib.hid (badE_no HEK.out hbad)
      clear hbad
      clear q15_0 q15_1 q15_2 q15_3 q15_4 r15_0 r15_1
      obtain⟨q33_0,q33_1,q33_2,q33_3,q33_4⟩:=(HC2 _ HB2.out).out
      have r33_0:=Nat.lt_of_lt_of_le (show w.heap.size<W2.heap.size by have h0:w.heap.size<W.heap.size:=(by have:=HWs.out;omega);have h2:=HB.out.size;have h3:=HW2.out.size;omega) HB2.out.size
      have r33_1:=Nat.lt_of_lt_of_le (show wq.heap.size<W2.heap.size by have:=HWs2.out;omega) HB2.out.size
      go_wp2_with fail
      go_ret
      exact⟨by rw[F.out];rfl,HW.out.trans (HBO.out.mono HW.out.size)⟩
    ·have F:=Lib.hid (show rightR p=true from rightR_iff.2 ⟨by have:=HL.out;omega,by have:=HM.out;omega,HVO.out,fun i x hx=>HA.out i x (by have:=(List.getElem?_eq_some_iff.1 hx).1;have:=HM.out;omega) hx⟩)
     go_wp2_with fail
     go_ret
     exact⟨by rw[F.out];rfl,HX.out⟩
end Go.Proofs.Ythopjhifepijiaa
