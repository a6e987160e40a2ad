/- Lemmas on the way to the statement. -/
import Derived.Test.YthopjhifepijiaaJ13
set_option linter.unusedSimpArgs false
set_option linter.unusedVariables false
namespace Go.Proofs.Ythopjhifepijiaa
open Go.RowKit Go.Joins
open Go.Maps (Keyed)
def CkPost (w:World) (vs:List VR) (es:List ER) (fs:List FR) (e:Ending) (w':World):Prop:=(e= .returned (.int .i64 19)∨(e= .returned (.int .i64 0)∧Sound vs es fs))∧Below w.heap.size w w'
theorem CkPost.bad {w w':World} {vs:List VR} {es:List ER} {fs:List FR} (h:Below w.heap.size w w'):CkPost w vs es fs (.returned (.int .i64 19)) w':=⟨.inl rfl,h⟩
theorem ne_hf18 {a b:Hf} {x:Bool} (h:decide (a=b)=x) (w:World):(binOp .neq 45 (.agg #[.int .i64 a.edge, .bool a.back]) (.agg #[.int .i64 b.edge, .bool b.back])).run Try.prog w= .ok (.bool (!x)) w:=by
 subst h
 obtain⟨ax,ay⟩:=a
 obtain⟨bx,by_⟩:=b
 simp[go_sem]
 by_cases h1:ax=bx<;>by_cases h2:ay=by_<;>simp[h1,h2]
theorem gfM_fit {es:List ER} (hl: ∀e∈es,fitI e.f0∧fitI e.f1): ∀(h:Hf) (v:Int),gfM es h=some v→fitI v:=by
 have key: ∀(l:List ER) (g:Hf→Option Int),(∀e∈l,fitI e.f0∧fitI e.f1)→(∀h v,g h=some v→fitI v)→ ∀h v,l.foldl (fun g e=>gf1 g e 2) g h=some v→fitI v:=by
  intro l
  induction l with
  |nil=>intro g _ hg;exact hg
  |cons e l ih=>
   intro g hl hg
   refine ih (gf1 g e 2) (fun e he=>hl e (by simp[he])) (fun h v hv=> ?_)
   have hf:=hl e (by simp)
   have hv:(if h=⟨e.id,true⟩ then some e.f1 else if h=⟨e.id,false⟩ then some e.f0 else g h)=some v:=hv
   split at hv
   ·cases hv;exact hf.2
   ·split at hv
    ·cases hv;exact hf.1
    ·exact hg h v hv
 exact key es _ hl (fun h v hv=>by cases hv)
set_option maxRecDepth 100000 in
set_option maxHeartbeats 16000000 in
theorem check_any {w:World} {B vn en fn vc ec fc:Nat} {va ea fa:Option Addr} {vs:List VR} {es:List ER} {fs:List FR} (hv:VRIn w B va vn vs) (he:ERIn w B ea en es) (hf:FRIn w B fa fn fs) (hB:B≤w.heap.size) (n1:vn≤100) (n2:en≤100) (n3:fn≤1000) (hfit:FitT vs es fs) (lv le lf:Int) (f1:fitI lv) (f2:fitI le) (f3:fitI lf):
  Calls Try.prog 30 #[.agg #[.int .i64 lv, .int .i64 le, .int .i64 lf, .slice va vn vc, .slice ea en ec, .slice fa fn fc]] w (CkPost w vs es fs):=by
 have HPL:=fun(W:World) (hb:Below w.heap.size w W)=>Lib.hid (planA_any (w:=W) (vc:=vc) (ec:=ec) (hv.below (hb.mono hB)) (he.below (hb.mono hB)) (Nat.le_trans hB hb.size) (by omega) (by omega) lv le lf fa fn fc)
 have HNU:=fun(W:World) (hb:Below w.heap.size w W)=>Lib.hid (numbers_any (w:=W) (vc:=vc) (ec:=ec) (fc:=fc) (hv.below (hb.mono hB)) (he.below (hb.mono hB)) (hf.below (hb.mono hB)) (Nat.le_trans hB hb.size) (by omega) (by omega) (by omega) lv le lf f1 f2 f3)
 have HV:=Lib.hid hv
 have HE:=Lib.hid he
 have HF:=Lib.hid hf
 have HFT:=Lib.hid hfit
 have hmm:= @run_makeMap Try.prog
 clear hv he hf hfit
 go_enter Try.func30,Try.ntmps30
 go_wp2_with fail
 first|refine wp_name (fun W hW=> ?_)|refine calls_name (fun W hW=> ?_)
 have HW:Hid (Below w.heap.size w W):=Lib.hid (by rw[←hW];repeat (first|exact Below.refl _ _|refine below_alloc ?_))
 have HWs:Hid (W.heap.size=w.heap.size+1):=Lib.hid (by rw[←hW];simp)
 have HBW:Hid (W.heap.size≤W.heap.size):=Lib.hid (by have:=HWs.out;omega)
 have HC:=fun(W1:World) (hb:Below (W.heap.size) W W1)=>Lib.hid (show W1.cell? ⟨w.heap.size,0,none⟩=some (.int .i64 lv)∧W1.cell? ⟨w.heap.size,1,none⟩=some (.int .i64 le)∧W1.cell? ⟨w.heap.size,2,none⟩=some (.int .i64 lf)∧W1.cell? ⟨w.heap.size,3,none⟩=some (.slice va vn vc)∧W1.cell? ⟨w.heap.size,4,none⟩=some (.slice ea en ec)∧W1.cell? ⟨w.heap.size,5,none⟩=some (.slice fa fn fc) from by have hs:=HWs.out;refine⟨?_, ?_, ?_, ?_, ?_, ?_⟩<;>(refine(hb.cell (by dsimp only;omega)).trans ?_;rw[←hW];clear hW;go_simp))
 have HB:=Lib.hid (Below.refl (W.heap.size) W)
 clear hW
 have HZ:=fun(W1:World) (hb:W.heap.size≤W1.heap.size)=>Lib.hid (show w.heap.size<W1.heap.size from by have:=HWs.out;omega)
 obtain⟨qx0,qx1,qx2,qx3,qx4,qx5⟩:=(HC _ HB.out).out
 have rx0:=(HZ _ HB.out.size).out
 refine(HPL _ HW.out).out.mono ?_
 rintro e wp ⟨a1,c1,a2,c2,rfl,hvp,hep,hb,hcap⟩
 have HB:=Lib.hid (bnl HB HBW hb)
 have HXP:=Lib.hid (below_step hb HW.out)
 have HVP:=Lib.hid (show VsIn wp wp.heap.size a1 vn (pOf vs es).vs from hvp)
 have HEP:=Lib.hid (show EsIn wp wp.heap.size a2 en (pOf vs es).es from hep)
 clear hvp hep hb
 clear qx0 qx1 qx2 qx3 qx4 qx5 rx0
 obtain⟨qx0,qx1,qx2,qx3,qx4,qx5⟩:=(HC _ HB.out).out
 have rx0:=(HZ _ HB.out.size).out
 go_wp2_with fail
 first|refine wp_name (fun W2 hW2=> ?_)|refine calls_name (fun W2 hW2=> ?_)
 have HW2:Hid (Below wp.heap.size wp W2):=Lib.hid (by rw[←hW2];repeat (first|exact Below.refl _ _|refine below_alloc ?_))
 have HWs2:Hid (W2.heap.size=wp.heap.size+1):=Lib.hid (by rw[←hW2];simp)
 have HBW2:Hid (W2.heap.size≤W2.heap.size):=Lib.hid (by have:=HWs2.out;omega)
 have HC2:=fun(W1:World) (hb:Below (W2.heap.size) W2 W1)=>Lib.hid (show W1.cell? ⟨w.heap.size,0,none⟩=some (.int .i64 lv)∧W1.cell? ⟨w.heap.size,1,none⟩=some (.int .i64 le)∧W1.cell? ⟨w.heap.size,2,none⟩=some (.int .i64 lf)∧W1.cell? ⟨w.heap.size,3,none⟩=some (.slice va vn vc)∧W1.cell? ⟨w.heap.size,4,none⟩=some (.slice ea en ec)∧W1.cell? ⟨w.heap.size,5,none⟩=some (.slice fa fn fc)∧W1.cell? ⟨wp.heap.size,0,none⟩=some (.slice a1 vn c1)∧W1.cell? ⟨wp.heap.size,1,none⟩=some (.slice a2 en c2) from by have ho:=(HC W1 (in_of HB.out HW2.out hb (Nat.le_trans HBW.out HB.out.size) (by have h1:=HBW.out;have h2:=HB.out.size;have h3:=HW2.out.size;have h4:=HWs2.out;omega))).out;have hs:=HWs2.out;have z1:=HWs.out;have z2:=HB.out.size;refine⟨ho.1,ho.2.1,ho.2.2.1,ho.2.2.2.1,ho.2.2.2.2.1,ho.2.2.2.2.2, ?_, ?_⟩<;>(refine(hb.cell (by dsimp only;omega)).trans ?_;rw[←hW2];clear hW2;go_simp))
 have HB2:=Lib.hid (Below.refl (W2.heap.size) W2)
 clear hW2
 have HZ2:=fun(W1:World) (hb:W2.heap.size≤W1.heap.size)=>Lib.hid (show w.heap.size<W1.heap.size∧wp.heap.size<W1.heap.size from by have o0:=(HZ _ HB.out.size).out;have h3:=HW2.out.size;have:=HWs2.out;refine⟨?_, ?_⟩<;>omega)
 clear qx0 qx1 qx2 qx3 qx4 qx5 rx0
 obtain⟨qx0,qx1,qx2,qx3,qx4,qx5,qx6,qx7⟩:=(HC2 _ HB2.out).out
 obtain⟨rx0,rx1⟩:=(HZ2 _ HB2.out.size).out
 have HX2:=Lib.hid (below_step HW2.out HXP.out)
 have HVQ:=fun(W:World) (hb:Below W2.heap.size W2 W)=>Lib.hid (show VsIn W wp.heap.size a1 vn (pOf vs es).vs∧EsIn W wp.heap.size a2 en (pOf vs es).es∧wp.heap.size≤W.heap.size from by
  have h:=HW2.out.trans (hb.mono HW2.out.size)
  exact⟨HVP.out.below h,HEP.out.below h,h.size⟩)
 have HRT:=fun(W:World) (hb:Below W2.heap.size W2 W)=>Lib.hid (right_any (w:=W) (vc:=c1) (ec:=c2) (HVQ W hb).out.1 (HVQ W hb).out.2.1 (HVQ W hb).out.2.2 (by omega) (by omega) hcap HFT.out.pl)
 refine(HRT _ (Below.refl _ _)).out.mono ?_
 rintro e w3 ⟨rfl,hb3⟩
 have HB2:=Lib.hid (bnl HB2 HBW2 hb3)
 clear hb3
 clear qx0 qx1 qx2 qx3 qx4 qx5 qx6 qx7 rx0 rx1
 obtain⟨qx0,qx1,qx2,qx3,qx4,qx5,qx6,qx7⟩:=(HC2 _ HB2.out).out
 obtain⟨rx0,rx1⟩:=(HZ2 _ HB2.out.size).out
 cases hr:rightB (pOf vs es)
 ·clear hr
  go_wp2_with fail
  go_ret
  exact CkPost.bad (HX2.out.trans (HB2.out.mono HX2.out.size))
 have r:=rightB_iff.1 hr
 have HR:=Lib.hid r
 clear hr r
 go_wp2_with fail
 refine(HNU _ (HX2.out.trans (HB2.out.mono HX2.out.size))).out.mono ?_
 rintro e w4 ⟨⟨b4,rfl, -⟩,hb4⟩
 have HB2:=Lib.hid (bnl HB2 HBW2 hb4)
 clear hb4
 clear qx0 qx1 qx2 qx3 qx4 qx5 qx6 qx7 rx0 rx1
 obtain⟨qx0,qx1,qx2,qx3,qx4,qx5,qx6,qx7⟩:=(HC2 _ HB2.out).out
 obtain⟨rx0,rx1⟩:=(HZ2 _ HB2.out.size).out
 cases b4
 ·go_wp2_with fail
  go_ret
  exact CkPost.bad (HX2.out.trans (HB2.out.mono HX2.out.size))
 go_wp2_with fail
 refine(links_any (w:=w4) (vc:=c1) (ec:=c2) HR.out (HVQ _ HB2.out).out.1 (HVQ _ HB2.out).out.2.1 (HVQ _ HB2.out).out.2.2 hcap HFT.out.pl).mono ?_
 rintro e wl ⟨⟨b1,b2,nl,rfl,hl1,hl2,hl12,hm1,hm2⟩,hbl⟩
 have HB2:=Lib.hid (bnl HB2 HBW2 hbl)
 have HM1:=Lib.hid hm1
 have HM2:=Lib.hid hm2
 have HB1_:=Lib.hid hm1.lt
 have HXL:=Lib.hid (HX2.out.trans (HB2.out.mono HX2.out.size))
 clear hm1 hm2 hbl hl1 hl2 hl12
 clear qx0 qx1 qx2 qx3 qx4 qx5 qx6 qx7 rx0 rx1
 obtain⟨qx0,qx1,qx2,qx3,qx4,qx5,qx6,qx7⟩:=(HC2 _ HB2.out).out
 obtain⟨rx0,rx1⟩:=(HZ2 _ HB2.out.size).out
 go_wp2_with fail
 first|refine wp_name (fun W3 hW3=> ?_)|refine calls_name (fun W3 hW3=> ?_)
 have HW3:Hid (Below wl.heap.size wl W3):=Lib.hid (by rw[←hW3];repeat (first|exact Below.refl _ _|refine below_alloc ?_))
 have HWs3:Hid (W3.heap.size=wl.heap.size+1):=Lib.hid (by rw[←hW3];simp)
 skip
 have HC3:=fun(W1:World) (hb:Touch ([wl.heap.size]) W3 W1)=>Lib.hid (show W1.cell? ⟨w.heap.size,0,none⟩=some (.int .i64 lv)∧W1.cell? ⟨w.heap.size,1,none⟩=some (.int .i64 le)∧W1.cell? ⟨w.heap.size,2,none⟩=some (.int .i64 lf)∧W1.cell? ⟨w.heap.size,3,none⟩=some (.slice va vn vc)∧W1.cell? ⟨w.heap.size,4,none⟩=some (.slice ea en ec)∧W1.cell? ⟨w.heap.size,5,none⟩=some (.slice fa fn fc)∧W1.cell? ⟨wp.heap.size,0,none⟩=some (.slice a1 vn c1)∧W1.cell? ⟨wp.heap.size,1,none⟩=some (.slice a2 en c2) from by have z0:=HBW2.out;have z1:=HB2.out.size;have z2:=HW3.out.size;have ho:=(HC2 W1 ((bnl HB2 HBW2 HW3.out).trans (hb.below (by omega) (by intro b hb;simp at hb;omega)))).out;exact ho)
 have HB3:=Lib.hid (Touch.refl ([wl.heap.size]) W3)
 have HZ3:=fun(W1:World) (hb:W3.heap.size≤W1.heap.size)=>Lib.hid (show w.heap.size<W1.heap.size∧wp.heap.size<W1.heap.size from by obtain⟨o0,o1⟩:=(HZ2 _ HB2.out.size).out;have h3:=HW3.out.size;have:=HWs3.out;refine⟨?_, ?_⟩<;>omega)
 clear qx0 qx1 qx2 qx3 qx4 qx5 qx6 qx7 rx0 rx1
 obtain⟨qx0,qx1,qx2,qx3,qx4,qx5,qx6,qx7⟩:=(HC3 _ HB3.out).out
 obtain⟨rx0,rx1⟩:=(HZ3 _ HB3.out.size).out
 have HMF:=Lib.hid (show MapT W3 Try.prog 45 wl.heap.size 0 ekH ekI (fun _=>none) from by rw[←hW3];exact MapT.made wl Try.prog 45 ekH ekI)
 have HM1:=Lib.hid (show MapT W3 Try.prog 45 b1 nl ekH ekH (lkN (pOf vs es) (ringsP (pOf vs es)).flatten)∧MapT W3 Try.prog 45 b2 nl ekH ekH (lkP (pOf vs es) (ringsP (pOf vs es)).flatten) from by rw[←hW3];exact⟨HM1.out.alloc _,HM2.out.alloc _⟩)
 have hb1l:b1<wl.heap.size∧b2<wl.heap.size:=by
  have h1:=HM1.out.1.lt
  have h2:=HM1.out.2.lt
  have h3:=HM2.out.lt
  have h4:=HB1_.out
  omega
 have HX3:=Lib.hid (below_step HW3.out HXL.out)
 have HWL:=Lib.hid HXL.out.size
 clear hW3 HM2
 go_wp2_with fail
 clear qx0 qx1 qx2 qx3 qx4 qx5 qx6 qx7 rx0 rx1
 go_loopw [40] (fun v wr=> ∃k:Nat,k≤en∧v= .int .i64 k∧MapT wr Try.prog 45 wl.heap.size (2*k) ekH ekI (gfM (es.take k))∧(∀j e,j<k→es[j]? =some e→ ∀b,LinkOk (pOf vs es) e b)∧Touch [wl.heap.size] W3 wr) (fun v _=>en - (intOf v).toNat)
 case atStart=>exact⟨0,Nat.zero_le _,rfl,HMF.out,fun j e hj=>absurd hj (by omega),Touch.refl _ _⟩
 case round=>
  clear HMF HB3
  obtain⟨k,hk,rfl,hmf,hall,ht⟩:=hrel
  obtain⟨wq,rfl⟩: ∃x:World,x=wr:=⟨_,rfl⟩
  have HMF:=Lib.hid hmf
  have HAL:=Lib.hid hall
  have HB3:=Lib.hid ht
  have HXQ:=Lib.hid (show Below w.heap.size w wq from HX3.out.trans (ht.below HX3.out.size (by have:=HWL.out;simp;omega)))
  clear hmf hall ht
  by_cases hlt:k<en
  ·skip
   obtain⟨eb,eoff,e,rfl,heb,hek,hcs⟩:=(HE.out.below (HXQ.out.mono hB)).at_ hlt
   have HEK:=Lib.hid hek
   have hebw:eb<wq.heap.size:=Nat.lt_of_lt_of_le heb (Nat.le_trans hB HXQ.out.size)
   have hem:=List.mem_of_getElem? hek
   have HKH:=Lib.hid (fun b=>key_h (h:=⟨e.id,b⟩) (HFT.out.pl.half (mem_half_row hem b)))
   have HEM:=Lib.hid hem
   clear hek hem
   go_wp2_with fail
   refine wp_name (fun V hV=> ?_)
   have HBV:=Lib.hid (show Below wq.heap.size wq V from by rw[←hV];exact below_alloc (below_alloc (Below.refl _ _)))
   have HRV:=Lib.hid (show V.rowIs wq.heap.size 81 13 (erF e)∧V.rowIs (wq.heap.size+1) 4 2 bo18 from by
    rw[←hV]
    refine⟨World.rowIs.alloc (World.rowIs_alloc wq #[.int .i64 e.id, .int .i64 e.a, .int .i64 e.b, .int .i64 e.n0, .bool e.m0, .int .i64 e.n1, .bool e.m1, .int .i64 e.p0, .bool e.q0, .int .i64 e.p1, .bool e.q1, .int .i64 e.f0, .int .i64 e.f1] 81 (erF e) (fun i hi=> ?_)) _, ?_⟩
    ·rcases i with _|_|_|_|_|_|_|_|_|_|_|_|_|i<;>first|rfl|(simp at hi;omega)
    ·have:=World.rowIs_alloc (wq.alloc (.cells #[.int .i64 e.id, .int .i64 e.a, .int .i64 e.b, .int .i64 e.n0, .bool e.m0, .int .i64 e.n1, .bool e.m1, .int .i64 e.p0, .bool e.q0, .int .i64 e.p1, .bool e.q1, .int .i64 e.f0, .int .i64 e.f1] 81)) #[.bool false, .bool true] 4 bo18 (fun i hi=>by rcases i with _|_|i<;>first|rfl|(simp at hi;omega))
     simpa using this)
   clear hV hcs
   have HMV:=Lib.hid (HMF.out.below HBV.out)
   have HLV:=Lib.hid (show wl.heap.size<wq.heap.size from by have h1:=HB3.out.size;have h2:=HWs3.out;omega)
   have HM1T:=fun(W1:World) (t:Touch [wl.heap.size] V W1)=>Lib.hid (show MapT W1 Try.prog 45 b1 nl ekH ekH (lkN (pOf vs es) (ringsP (pOf vs es)).flatten)∧MapT W1 Try.prog 45 b2 nl ekH ekH (lkP (pOf vs es) (ringsP (pOf vs es)).flatten) from by
    have t2:=(HB3.out.trans (Touch.of_below (F:=[]) HBV.out) (by simp)).trans t (fun b hb=> .inl hb)
    exact⟨HM1.out.1.touch t2 (by simp;omega),HM1.out.2.touch t2 (by simp;omega)⟩)
   go_loopw [46] (fun v wi=> ∃i:Nat,i≤2∧v= .int .i64 i∧MapT wi Try.prog 45 wl.heap.size (2*k+i) ekH ekI (gf1 (gfM (es.take k)) e i)∧(∀b,(b=false∧0<i)∨(b=true∧1<i)→LinkOk (pOf vs es) e b)∧Touch [wl.heap.size] V wi) (fun v _=>2 - (intOf v).toNat)
   case atStart=>exact⟨0,by omega,rfl,HMV.out,fun b hb=>by omega,Touch.refl _ _⟩
   case round=>
    clear HMF HMV
    obtain⟨i,hi,rfl,hmf,hlk,ht⟩:=hrel
    obtain⟨wi,rfl⟩: ∃x:World,x=wr:=⟨_,rfl⟩
    have HMI:=Lib.hid hmf
    have HLK:=Lib.hid hlk
    have HTI:=Lib.hid ht
    have HB3q:=HB3
    have HB3:=Lib.hid ((HB3.out.trans (Touch.of_below (F:=[]) HBV.out) (by simp)).trans ht (fun b hb=> .inl hb))
    have HXI:=Lib.hid (show Below w.heap.size w wi from(below_step HBV.out HXQ.out).trans (ht.below (below_step HBV.out HXQ.out).size (by have:=HWL.out;simp;omega)))
    have HRI:=Lib.hid (rowIs_touch HRV.out.1 ht (by have:=HLV.out;simp;omega))
    have HRBI:=Lib.hid (rowIs_touch HRV.out.2 ht (by have:=HLV.out;simp;omega))
    have HLX:=fun(b:Bool) (W1:World) (hb:Below wi.heap.size wi W1)=>Lib.hid (show(Instr.lookup 116 (.map (some b1)) (.agg #[.int .i64 e.id, .bool b]) false).run Try.prog W1= .ok (.agg #[.int .i64 (nextP (pOf vs es) ⟨e.id,b⟩).edge, .bool (nextP (pOf vs es) ⟨e.id,b⟩).back]) W1 from by
     have:=((HM1T wi HTI.out).out.1.below hb).look Try.keyHalf Try.underlying116 (zeroHf W1) (HKH.out b)
     rw[lkN_all HR.out (mem_half_row HEM.out b)] at this
     exact this)
    have HPX:=fun(b:Bool) (W1:World) (hb:Below wi.heap.size wi W1)=>Lib.hid (show(Instr.lookup 116 (.map (some b2)) (.agg #[.int .i64 e.id, .bool b]) false).run Try.prog W1= .ok (.agg #[.int .i64 (prevP (pOf vs es) ⟨e.id,b⟩).edge, .bool (prevP (pOf vs es) ⟨e.id,b⟩).back]) W1 from by
     have:=((HM1T wi HTI.out).out.2.below hb).look Try.keyHalf Try.underlying116 (zeroHf W1) (HKH.out b)
     rw[lkP_all HR.out (mem_half_row HEM.out b)] at this
     exact this)
    have HCH:=fun(b:Bool) (W1:World) (hb:Below (wi.alloc (.cells #[.int .i64 e.id, .bool b] 45)).heap.size (wi.alloc (.cells #[.int .i64 e.id, .bool b] 45)) W1)=>Lib.hid (show W1.cell? ⟨wi.heap.size,0,none⟩=some (.int .i64 e.id)∧W1.cell? ⟨wi.heap.size,1,none⟩=some (.bool b)∧wi.heap.size<W1.heap.size from⟨(hb.cell (p:=⟨wi.heap.size,0,none⟩) (by simp)).trans (by simp[World.cell?_alloc_new]),(hb.cell (p:=⟨wi.heap.size,1,none⟩) (by simp)).trans (by simp[World.cell?_alloc_new]),by have:=hb.size;simp at this;omega⟩)
    have hwqi:wq.heap.size+1<wi.heap.size:=World.rowIs.lt HRBI.out
    clear hmf hlk ht
    by_cases hi2:i<2
    ·rcases(show i=0∨i=1 by omega) with rfl|rfl
     ·skip
      have HLN:=HLX false
      have HLP:=HPX false
      obtain⟨nx,hnx⟩: ∃nx,nx=nextP (pOf vs es) ⟨e.id,false⟩:=⟨_,rfl⟩
      obtain⟨pv,hpv⟩: ∃pv,pv=prevP (pOf vs es) ⟨e.id,false⟩:=⟨_,rfl⟩
      rw[←hnx] at HLN
      rw[←hpv] at HLP
      have HNX:=Lib.hid hnx
      have HPV:=Lib.hid hpv
      have hc:=er_cells HRI.out
      have hbv:wi.cell? ⟨wq.heap.size+1,0,none⟩=some (.bool false):=World.rowIs.cell HRBI.out (i:=0) (by decide)
      clear hnx hpv
      go_wp2_with fail
      clear hc hbv
      by_cases hn:(⟨e.n0,e.m0⟩:Hf)=nx
      rotate_left
      ·have rn:=ne_hf18 (decide_eq_false hn)
       simp only[Bool.not_false] at rn
       clear hn
       refine wp_name (fun c8 hc8=> ?_)
       have HB3:=Lib.hid (touch_name HB3.out (by repeat (first|exact Below.refl _ _|refine below_alloc ?_)) hc8)
       have HXC:=Lib.hid (show Below w.heap.size w c8 from hc8▸below_alloc (o:= .cells #[.int .i64 e.id, .bool false] 45) HXI.out);have HWC:=Lib.hid (show Below wi.heap.size wi c8 from hc8▸below_alloc (Below.refl _ _));have HCC:=fun(W1:World) (hb:Below c8.heap.size c8 W1)=>HCH false W1 (by rw[hc8];exact hb);have y1:=fun(x0:Later c8)=>er_cells (rowIs_touch HRI.out (Touch.of_below (F:=[]) (below_step x0.2 HWC.out)) (by simp));have y2:=fun(x0:Later c8)=>(HLN x0.1 (below_step x0.2 HWC.out)).out;have y3:=fun(x0:Later c8)=>(HLP x0.1 (below_step x0.2 HWC.out)).out;have y4:=fun(x0:Later c8)=>(HCC x0.1 x0.2).out
       clear hc8
       have xx:=fun(x:Later c8)=>(HC3 _ (touch_later HB3.out x.2)).out
       simp only[forall_and] at xx
       obtain⟨xx0,xx1,xx2,xx3,xx4,xx5,xx6,xx7⟩:=xx
       refine wp_region_later (by kernel_rfl) (by kernel_rfl) ?_
       repeat (first|go_big_quiet_step ((fail))|quiet_step ((fail)))
       refine wpQuiet_nil ?_
       intro wt hw8
       have hb8:=later_below hw8
       clear hw8
       have HB3:=Lib.hid (touch_later HB3.out hb8)
       clear xx0 xx1 xx2 xx3 xx4 xx5 xx6 xx7
       obtain⟨qx0,qx1,qx2,qx3,qx4,qx5,qx6,qx7⟩:=(HC3 _ HB3.out).out
       have HXt:=Lib.hid (below_step hb8 HXC.out);have HWt:=Lib.hid (below_step hb8 HWC.out);have HCt:=HCC wt hb8
       clear hb8
       obtain⟨rx0,rx1⟩:=(HZ3 _ HB3.out.size).out
       go_wp2_with fail
       go_ret
       exact CkPost.bad HXt.out
      ·have rn:=ne_hf18 (decide_eq_true hn)
       simp only[Bool.not_true] at rn
       have HN:=Lib.hid hn
       clear hn
       by_cases hp:(⟨e.p0,e.q0⟩:Hf)=pv
       rotate_left
       ·have rp:=ne_hf18 (decide_eq_false hp)
        simp only[Bool.not_false] at rp
        clear hp
        refine wp_name (fun c9 hc9=> ?_)
        have HB3:=Lib.hid (touch_name HB3.out (by repeat (first|exact Below.refl _ _|refine below_alloc ?_)) hc9)
        have HXC:=Lib.hid (show Below w.heap.size w c9 from hc9▸below_alloc (o:= .cells #[.int .i64 e.id, .bool false] 45) HXI.out);have HWC:=Lib.hid (show Below wi.heap.size wi c9 from hc9▸below_alloc (Below.refl _ _));have HCC:=fun(W1:World) (hb:Below c9.heap.size c9 W1)=>HCH false W1 (by rw[hc9];exact hb);have y1:=fun(x0:Later c9)=>er_cells (rowIs_touch HRI.out (Touch.of_below (F:=[]) (below_step x0.2 HWC.out)) (by simp));have y2:=fun(x0:Later c9)=>(HLN x0.1 (below_step x0.2 HWC.out)).out;have y3:=fun(x0:Later c9)=>(HLP x0.1 (below_step x0.2 HWC.out)).out;have y4:=fun(x0:Later c9)=>(HCC x0.1 x0.2).out
        clear hc9
        have xx:=fun(x:Later c9)=>(HC3 _ (touch_later HB3.out x.2)).out
        simp only[forall_and] at xx
        obtain⟨xx0,xx1,xx2,xx3,xx4,xx5,xx6,xx7⟩:=xx
        refine wp_region_later (by kernel_rfl) (by kernel_rfl) ?_
        repeat (first|go_big_quiet_step ((fail))|quiet_step ((fail)))
        refine wpQuiet_nil ?_
        intro wt hw9
        have hb9:=later_below hw9
        clear hw9
        have HB3:=Lib.hid (touch_later HB3.out hb9)
        clear xx0 xx1 xx2 xx3 xx4 xx5 xx6 xx7
        obtain⟨qx0,qx1,qx2,qx3,qx4,qx5,qx6,qx7⟩:=(HC3 _ HB3.out).out
        have HXt:=Lib.hid (below_step hb9 HXC.out);have HWt:=Lib.hid (below_step hb9 HWC.out);have HCt:=HCC wt hb9
        clear hb9
        obtain⟨rx0,rx1⟩:=(HZ3 _ HB3.out.size).out
        go_wp2_with fail
        go_ret
        exact CkPost.bad HXt.out
       ·have rp:=ne_hf18 (decide_eq_true hp)
        simp only[Bool.not_true] at rp
        have HP:=Lib.hid hp
        clear hp
        refine wp_name (fun c10 hc10=> ?_)
        have HB3:=Lib.hid (touch_name HB3.out (by repeat (first|exact Below.refl _ _|refine below_alloc ?_)) hc10)
        have HXC:=Lib.hid (show Below w.heap.size w c10 from hc10▸below_alloc (o:= .cells #[.int .i64 e.id, .bool false] 45) HXI.out);have HWC:=Lib.hid (show Below wi.heap.size wi c10 from hc10▸below_alloc (Below.refl _ _));have HCC:=fun(W1:World) (hb:Below c10.heap.size c10 W1)=>HCH false W1 (by rw[hc10];exact hb);have y1:=fun(x0:Later c10)=>er_cells (rowIs_touch HRI.out (Touch.of_below (F:=[]) (below_step x0.2 HWC.out)) (by simp));have y2:=fun(x0:Later c10)=>(HLN x0.1 (below_step x0.2 HWC.out)).out;have y3:=fun(x0:Later c10)=>(HLP x0.1 (below_step x0.2 HWC.out)).out;have y4:=fun(x0:Later c10)=>(HCC x0.1 x0.2).out
        clear hc10
        have xx:=fun(x:Later c10)=>(HC3 _ (touch_later HB3.out x.2)).out
        simp only[forall_and] at xx
        obtain⟨xx0,xx1,xx2,xx3,xx4,xx5,xx6,xx7⟩:=xx
        refine wp_region_later (by kernel_rfl) (by kernel_rfl) ?_
        repeat (first|go_big_quiet_step ((fail))|quiet_step ((fail)))
        refine wpQuiet_nil ?_
        intro wt hw10
        have hb10:=later_below hw10
        clear hw10
        have HB3:=Lib.hid (touch_later HB3.out hb10)
        clear xx0 xx1 xx2 xx3 xx4 xx5 xx6 xx7
        obtain⟨qx0,qx1,qx2,qx3,qx4,qx5,qx6,qx7⟩:=(HC3 _ HB3.out).out
        have HXt:=Lib.hid (below_step hb10 HXC.out);have HWt:=Lib.hid (below_step hb10 HWC.out);have HCt:=HCC wt hb10
        clear hb10
        obtain⟨rx0,rx1⟩:=(HZ3 _ HB3.out.size).out
        clear rn rp
        go_upto_region 15 with fail
        have HRt:=Lib.hid (rowIs_touch HRI.out (Touch.of_below (F:=[]) HWt.out) (by simp))
        have HMt:=Lib.hid (HMI.out.below HWt.out)
        have HTt:=Lib.hid (HTI.out.trans (Touch.of_below (F:=[]) HWt.out) (by simp))
        have hwit:wi.heap.size<wt.heap.size:=HCt.out.2.2
        have HY:=fun(w':World) (t:Below wt.heap.size wt w')=>Lib.hid (show w'.cell? ⟨wi.heap.size,0,none⟩=some (.int .i64 e.id)∧w'.cell? ⟨wi.heap.size,1,none⟩=some (.bool false)∧w'.cell? ⟨wq.heap.size,11+0,none⟩=some (.int .i64 e.f0) from⟨(t.cell (p:=⟨wi.heap.size,0,none⟩) hwit).trans HCt.out.1,(t.cell (p:=⟨wi.heap.size,1,none⟩) hwit).trans HCt.out.2.1,World.rowIs.cell (rowIs_touch HRt.out (Touch.of_below (F:=[]) t) (by simp)) (i:=11+0) (by decide)⟩)
        have HS0:=Lib.hid (Below.refl wt.heap.size wt).drew
        refine wp_region_noPanic ?_
        refine wp_region_par3 6 6 (by kernel_rfl) (by kernel_rfl) (by simp) (by omega) (by kernel_rfl) (by kernel_rfl) (fun w':World=>Below wt.heap.size wt w') ?_
        refine par3_move (v:= ?_) 0 (by simp only[zga,zgb,zgc];rfl) (by kernel_rfl) (by rfl) ?_ (fun _ _ _ h=>h) ?_
        rotate_left
        ·(intro w9;go_simp;try with_reducible rfl)
        simp only[Act.put,zpa,zpb,zpc]
        refine par3_read8 (v:= ?_) 1 (by simp only[zga,zgb,zgc];rfl) (by kernel_rfl) (by rfl) HS0.out ?_ (fun _ _ _ h=>h) ?_
        rotate_left
        ·(intro w9 hSw;obtain⟨y0,y1,y2⟩:=(HY w9 hSw).out;clear hSw;go_simp;try with_reducible rfl)
        simp only[Act.put,zpa,zpb,zpc]
        refine par3_move (v:= ?_) 2 (by simp only[zga,zgb,zgc];rfl) (by kernel_rfl) (by rfl) ?_ (fun _ _ _ h=>h) ?_
        rotate_left
        ·(intro w9;go_simp;try with_reducible rfl)
        simp only[Act.put,zpa,zpb,zpc]
        refine par3_move (v:= ?_) 3 (by simp only[zga,zgb,zgc];rfl) (by kernel_rfl) (by rfl) ?_ (fun _ _ _ h=>h) ?_
        rotate_left
        ·(intro w9;go_simp;try with_reducible rfl)
        simp only[Act.put,zpa,zpb,zpc]
        refine par3_move (v:= ?_) 4 (by simp only[zga,zgb,zgc];rfl) (by kernel_rfl) (by rfl) ?_ (fun _ _ _ h=>h) ?_
        rotate_left
        ·(intro w9;go_simp;try with_reducible rfl)
        simp only[Act.put,zpa,zpb,zpc]
        refine par3_read8 (v:= ?_) 5 (by simp only[zga,zgb,zgc];rfl) (by kernel_rfl) (by rfl) HS0.out ?_ (fun _ _ _ h=>h) ?_
        rotate_left
        ·(intro w9 hSw;obtain⟨y0,y1,y2⟩:=(HY w9 hSw).out;clear hSw;go_simp;try with_reducible rfl)
        simp only[Act.put,zpa,zpb,zpc]
        refine par3_nm (fun W0 hW0=> ?_)
        rw[←hW0] at HS0
        clear hW0
        have HM0:=Lib.hid (HMt.out.below HS0.out)
        have HT0:=Lib.hid (HTt.out.trans (Touch.of_below (F:=[]) HS0.out) (by simp))
        refine par3_tail _ (by simp only[List.drop_succ_cons,List.drop_zero];rfl) (by kernel_rfl) ?_
        go_wp2_with (at_mapUpdate;refine wpList_update_T _ rfl _ _ _ 114 rfl 45 3 Try.keyHalf Try.underlying114 wl.heap.size (2*k+0) ekH ekI (gf1 (gfM (es.take k)) e 0) HM0.out rfl (by unfold maxLen;omega) (⟨e.id,false⟩:Hf) _ rfl (HKH.out false) (ekH_inj _) e.f0 rfl ?_;intro w6 hm6 hg6;have HM6:=Lib.hid (show MapT w6 Try.prog 45 wl.heap.size (2*k+(0+1)) ekH ekI (gf1 (gfM (es.take k)) e (0+1)) from hm6);have HT6:=Lib.hid (HT0.out.trans (Touch.of_grown hg6) (by simp));clear hm6 hg6)
        refine NoPanic.normal ?_
        go_wp2_with fail
        go_roundw
        case rel=>
         refine⟨0+1,by omega,by go_num,HM6.out,fun b hb=> ?_,HT6.out⟩
         by_cases hq:b=false
         ·subst hq
          exact⟨by rw[←HNX.out, ←HN.out];rfl,by rw[←HPV.out, ←HP.out];rfl⟩
         ·exact HLK.out b (by cases b<;>simp at hq hb ⊢)
        case measure=>simp[intOf]
     ·skip
      have HLN:=HLX true
      have HLP:=HPX true
      obtain⟨nx,hnx⟩: ∃nx,nx=nextP (pOf vs es) ⟨e.id,true⟩:=⟨_,rfl⟩
      obtain⟨pv,hpv⟩: ∃pv,pv=prevP (pOf vs es) ⟨e.id,true⟩:=⟨_,rfl⟩
      rw[←hnx] at HLN
      rw[←hpv] at HLP
      have HNX:=Lib.hid hnx
      have HPV:=Lib.hid hpv
      have hc:=er_cells HRI.out
      have hbv:wi.cell? ⟨wq.heap.size+1,1,none⟩=some (.bool true):=World.rowIs.cell HRBI.out (i:=1) (by decide)
      clear hnx hpv
      go_wp2_with fail
      clear hc hbv
      by_cases hn:(⟨e.n1,e.m1⟩:Hf)=nx
      rotate_left
      ·have rn:=ne_hf18 (decide_eq_false hn)
       simp only[Bool.not_false] at rn
       clear hn
       refine wp_name (fun c11 hc11=> ?_)
       have HB3:=Lib.hid (touch_name HB3.out (by repeat (first|exact Below.refl _ _|refine below_alloc ?_)) hc11)
       have HXC:=Lib.hid (show Below w.heap.size w c11 from hc11▸below_alloc (o:= .cells #[.int .i64 e.id, .bool true] 45) HXI.out);have HWC:=Lib.hid (show Below wi.heap.size wi c11 from hc11▸below_alloc (Below.refl _ _));have HCC:=fun(W1:World) (hb:Below c11.heap.size c11 W1)=>HCH true W1 (by rw[hc11];exact hb);have y1:=fun(x0:Later c11)=>er_cells (rowIs_touch HRI.out (Touch.of_below (F:=[]) (below_step x0.2 HWC.out)) (by simp));have y2:=fun(x0:Later c11)=>(HLN x0.1 (below_step x0.2 HWC.out)).out;have y3:=fun(x0:Later c11)=>(HLP x0.1 (below_step x0.2 HWC.out)).out;have y4:=fun(x0:Later c11)=>(HCC x0.1 x0.2).out
       clear hc11
       have xx:=fun(x:Later c11)=>(HC3 _ (touch_later HB3.out x.2)).out
       simp only[forall_and] at xx
       obtain⟨xx0,xx1,xx2,xx3,xx4,xx5,xx6,xx7⟩:=xx
       refine wp_region_later (by kernel_rfl) (by kernel_rfl) ?_
       repeat (first|go_big_quiet_step ((fail))|quiet_step ((fail)))
       refine wpQuiet_nil ?_
       intro wt hw11
       have hb11:=later_below hw11
       clear hw11
       have HB3:=Lib.hid (touch_later HB3.out hb11)
       clear xx0 xx1 xx2 xx3 xx4 xx5 xx6 xx7
       obtain⟨qx0,qx1,qx2,qx3,qx4,qx5,qx6,qx7⟩:=(HC3 _ HB3.out).out
       have HXt:=Lib.hid (below_step hb11 HXC.out);have HWt:=Lib.hid (below_step hb11 HWC.out);have HCt:=HCC wt hb11
       clear hb11
       obtain⟨rx0,rx1⟩:=(HZ3 _ HB3.out.size).out
       go_wp2_with fail
       go_ret
       exact CkPost.bad HXt.out
      ·have rn:=ne_hf18 (decide_eq_true hn)
       simp only[Bool.not_true] at rn
       have HN:=Lib.hid hn
       clear hn
       by_cases hp:(⟨e.p1,e.q1⟩:Hf)=pv
       rotate_left
       ·have rp:=ne_hf18 (decide_eq_false hp)
        simp only[Bool.not_false] at rp
        clear hp
        refine wp_name (fun c12 hc12=> ?_)
        have HB3:=Lib.hid (touch_name HB3.out (by repeat (first|exact Below.refl _ _|refine below_alloc ?_)) hc12)
        have HXC:=Lib.hid (show Below w.heap.size w c12 from hc12▸below_alloc (o:= .cells #[.int .i64 e.id, .bool true] 45) HXI.out);have HWC:=Lib.hid (show Below wi.heap.size wi c12 from hc12▸below_alloc (Below.refl _ _));have HCC:=fun(W1:World) (hb:Below c12.heap.size c12 W1)=>HCH true W1 (by rw[hc12];exact hb);have y1:=fun(x0:Later c12)=>er_cells (rowIs_touch HRI.out (Touch.of_below (F:=[]) (below_step x0.2 HWC.out)) (by simp));have y2:=fun(x0:Later c12)=>(HLN x0.1 (below_step x0.2 HWC.out)).out;have y3:=fun(x0:Later c12)=>(HLP x0.1 (below_step x0.2 HWC.out)).out;have y4:=fun(x0:Later c12)=>(HCC x0.1 x0.2).out
        clear hc12
        have xx:=fun(x:Later c12)=>(HC3 _ (touch_later HB3.out x.2)).out
        simp only[forall_and] at xx
        obtain⟨xx0,xx1,xx2,xx3,xx4,xx5,xx6,xx7⟩:=xx
        refine wp_region_later (by kernel_rfl) (by kernel_rfl) ?_
        repeat (first|go_big_quiet_step ((fail))|quiet_step ((fail)))
        refine wpQuiet_nil ?_
        intro wt hw12
        have hb12:=later_below hw12
        clear hw12
        have HB3:=Lib.hid (touch_later HB3.out hb12)
        clear xx0 xx1 xx2 xx3 xx4 xx5 xx6 xx7
        obtain⟨qx0,qx1,qx2,qx3,qx4,qx5,qx6,qx7⟩:=(HC3 _ HB3.out).out
        have HXt:=Lib.hid (below_step hb12 HXC.out);have HWt:=Lib.hid (below_step hb12 HWC.out);have HCt:=HCC wt hb12
        clear hb12
        obtain⟨rx0,rx1⟩:=(HZ3 _ HB3.out.size).out
        go_wp2_with fail
        go_ret
        exact CkPost.bad HXt.out
       ·have rp:=ne_hf18 (decide_eq_true hp)
        simp only[Bool.not_true] at rp
        have HP:=Lib.hid hp
        clear hp
        refine wp_name (fun c13 hc13=> ?_)
        have HB3:=Lib.hid (touch_name HB3.out (by repeat (first|exact Below.refl _ _|refine below_alloc ?_)) hc13)
        have HXC:=Lib.hid (show Below w.heap.size w c13 from hc13▸below_alloc (o:= .cells #[.int .i64 e.id, .bool true] 45) HXI.out);have HWC:=Lib.hid (show Below wi.heap.size wi c13 from hc13▸below_alloc (Below.refl _ _));have HCC:=fun(W1:World) (hb:Below c13.heap.size c13 W1)=>HCH true W1 (by rw[hc13];exact hb);have y1:=fun(x0:Later c13)=>er_cells (rowIs_touch HRI.out (Touch.of_below (F:=[]) (below_step x0.2 HWC.out)) (by simp));have y2:=fun(x0:Later c13)=>(HLN x0.1 (below_step x0.2 HWC.out)).out;have y3:=fun(x0:Later c13)=>(HLP x0.1 (below_step x0.2 HWC.out)).out;have y4:=fun(x0:Later c13)=>(HCC x0.1 x0.2).out
        clear hc13
        have xx:=fun(x:Later c13)=>(HC3 _ (touch_later HB3.out x.2)).out
        simp only[forall_and] at xx
        obtain⟨xx0,xx1,xx2,xx3,xx4,xx5,xx6,xx7⟩:=xx
        refine wp_region_later (by kernel_rfl) (by kernel_rfl) ?_
        repeat (first|go_big_quiet_step ((fail))|quiet_step ((fail)))
        refine wpQuiet_nil ?_
        intro wt hw13
        have hb13:=later_below hw13
        clear hw13
        have HB3:=Lib.hid (touch_later HB3.out hb13)
        clear xx0 xx1 xx2 xx3 xx4 xx5 xx6 xx7
        obtain⟨qx0,qx1,qx2,qx3,qx4,qx5,qx6,qx7⟩:=(HC3 _ HB3.out).out
        have HXt:=Lib.hid (below_step hb13 HXC.out);have HWt:=Lib.hid (below_step hb13 HWC.out);have HCt:=HCC wt hb13
        clear hb13
        obtain⟨rx0,rx1⟩:=(HZ3 _ HB3.out.size).out
        clear rn rp
        go_upto_region 15 with fail
        have HRt:=Lib.hid (rowIs_touch HRI.out (Touch.of_below (F:=[]) HWt.out) (by simp))
        have HMt:=Lib.hid (HMI.out.below HWt.out)
        have HTt:=Lib.hid (HTI.out.trans (Touch.of_below (F:=[]) HWt.out) (by simp))
        have hwit:wi.heap.size<wt.heap.size:=HCt.out.2.2
        have HY:=fun(w':World) (t:Below wt.heap.size wt w')=>Lib.hid (show w'.cell? ⟨wi.heap.size,0,none⟩=some (.int .i64 e.id)∧w'.cell? ⟨wi.heap.size,1,none⟩=some (.bool true)∧w'.cell? ⟨wq.heap.size,11+1,none⟩=some (.int .i64 e.f1) from⟨(t.cell (p:=⟨wi.heap.size,0,none⟩) hwit).trans HCt.out.1,(t.cell (p:=⟨wi.heap.size,1,none⟩) hwit).trans HCt.out.2.1,World.rowIs.cell (rowIs_touch HRt.out (Touch.of_below (F:=[]) t) (by simp)) (i:=11+1) (by decide)⟩)
        have HS0:=Lib.hid (Below.refl wt.heap.size wt).drew
        refine wp_region_noPanic ?_
        refine wp_region_par3 6 6 (by kernel_rfl) (by kernel_rfl) (by simp) (by omega) (by kernel_rfl) (by kernel_rfl) (fun w':World=>Below wt.heap.size wt w') ?_
        refine par3_move (v:= ?_) 0 (by simp only[zga,zgb,zgc];rfl) (by kernel_rfl) (by rfl) ?_ (fun _ _ _ h=>h) ?_
        rotate_left
        ·(intro w9;go_simp;try with_reducible rfl)
        simp only[Act.put,zpa,zpb,zpc]
        refine par3_read8 (v:= ?_) 1 (by simp only[zga,zgb,zgc];rfl) (by kernel_rfl) (by rfl) HS0.out ?_ (fun _ _ _ h=>h) ?_
        rotate_left
        ·(intro w9 hSw;obtain⟨y0,y1,y2⟩:=(HY w9 hSw).out;clear hSw;go_simp;try with_reducible rfl)
        simp only[Act.put,zpa,zpb,zpc]
        refine par3_move (v:= ?_) 2 (by simp only[zga,zgb,zgc];rfl) (by kernel_rfl) (by rfl) ?_ (fun _ _ _ h=>h) ?_
        rotate_left
        ·(intro w9;go_simp;try with_reducible rfl)
        simp only[Act.put,zpa,zpb,zpc]
        refine par3_move (v:= ?_) 3 (by simp only[zga,zgb,zgc];rfl) (by kernel_rfl) (by rfl) ?_ (fun _ _ _ h=>h) ?_
        rotate_left
        ·(intro w9;go_simp;try with_reducible rfl)
        simp only[Act.put,zpa,zpb,zpc]
        refine par3_move (v:= ?_) 4 (by simp only[zga,zgb,zgc];rfl) (by kernel_rfl) (by rfl) ?_ (fun _ _ _ h=>h) ?_
        rotate_left
        ·(intro w9;go_simp;try with_reducible rfl)
        simp only[Act.put,zpa,zpb,zpc]
        refine par3_read8 (v:= ?_) 5 (by simp only[zga,zgb,zgc];rfl) (by kernel_rfl) (by rfl) HS0.out ?_ (fun _ _ _ h=>h) ?_
        rotate_left
        ·(intro w9 hSw;obtain⟨y0,y1,y2⟩:=(HY w9 hSw).out;clear hSw;go_simp;try with_reducible rfl)
        simp only[Act.put,zpa,zpb,zpc]
        refine par3_nm (fun W0 hW0=> ?_)
        rw[←hW0] at HS0
        clear hW0
        have HM0:=Lib.hid (HMt.out.below HS0.out)
        have HT0:=Lib.hid (HTt.out.trans (Touch.of_below (F:=[]) HS0.out) (by simp))
        refine par3_tail _ (by simp only[List.drop_succ_cons,List.drop_zero];rfl) (by kernel_rfl) ?_
        go_wp2_with (at_mapUpdate;refine wpList_update_T _ rfl _ _ _ 114 rfl 45 3 Try.keyHalf Try.underlying114 wl.heap.size (2*k+1) ekH ekI (gf1 (gfM (es.take k)) e 1) HM0.out rfl (by unfold maxLen;omega) (⟨e.id,true⟩:Hf) _ rfl (HKH.out true) (ekH_inj _) e.f1 rfl ?_;intro w6 hm6 hg6;have HM6:=Lib.hid (show MapT w6 Try.prog 45 wl.heap.size (2*k+(1+1)) ekH ekI (gf1 (gfM (es.take k)) e (1+1)) from hm6);have HT6:=Lib.hid (HT0.out.trans (Touch.of_grown hg6) (by simp));clear hm6 hg6)
        refine NoPanic.normal ?_
        go_wp2_with fail
        go_roundw
        case rel=>
         refine⟨1+1,by omega,by go_num,HM6.out,fun b hb=> ?_,HT6.out⟩
         by_cases hq:b=true
         ·subst hq
          exact⟨by rw[←HNX.out, ←HN.out];rfl,by rw[←HPV.out, ←HP.out];rfl⟩
         ·exact HLK.out b (by cases b<;>simp at hq hb ⊢)
        case measure=>simp[intOf]
    ·have HMQ:=Lib.hid (show MapT wi Try.prog 45 wl.heap.size (2*(k+1)) ekH ekI (gfM (es.take (k+1))) from by
      have h:=HMI.out
      rw[show i=2 by omega] at h
      rw[take_snoc' HEK.out,gfM_snoc]
      exact h)
     go_wp2_with fail
     go_roundw
     case rel=>
      refine⟨k+1,by omega,by go_num,HMQ.out,fun j f hj hf b=> ?_,HB3.out⟩
      by_cases e1:j=k
      ·subst e1
       rw[HEK.out] at hf
       cases hf
       exact HLK.out b (by cases b<;>simp<;>omega)
      ·exact HAL.out j f (by omega) hf b
     case measure=>simp[intOf];omega
  ·skip
   have HMQ:=Lib.hid (show MapT wq Try.prog 45 wl.heap.size (2*k) ekH ekI (gfM es) from by
    have h:=HMF.out
    rw[List.take_of_length_le (by have:=HE.out.1;omega)] at h
    exact h)
   have HLO:=Lib.hid (show∀e∈es, ∀b,LinkOk (pOf vs es) e b from fun e he b=>by
    obtain⟨j,hj⟩:=List.mem_iff_getElem?.1 he
    exact HAL.out j e (by have:=(List.getElem?_eq_some_iff.1 hj).1;have:=HE.out.1;omega) hj b)
   have HMU:=Lib.hid (show wl.heap.size<wq.heap.size from by have h1:=HB3.out.size;have h2:=HWs3.out;omega)
   have HWQ:=Lib.hid HXQ.out.size
   clear HMF HAL
   obtain⟨qx0,qx1,qx2,qx3,qx4,qx5,qx6,qx7⟩:=(HC3 _ HB3.out).out
   obtain⟨rx0,rx1⟩:=(HZ3 _ HB3.out.size).out
   go_wp2_with fail
   first|refine wp_name (fun W4 hW4=> ?_)|refine calls_name (fun W4 hW4=> ?_)
   have HW4:Hid (Below wq.heap.size wq W4):=Lib.hid (by rw[←hW4];repeat (first|exact Below.refl _ _|refine below_alloc ?_))
   have HWs4:Hid (W4.heap.size=wq.heap.size+1):=Lib.hid (by rw[←hW4];simp)
   skip
   have HC4:=fun(W1:World) (hb:Touch ([wq.heap.size]) W4 W1)=>Lib.hid (show W1.cell? ⟨w.heap.size,0,none⟩=some (.int .i64 lv)∧W1.cell? ⟨w.heap.size,1,none⟩=some (.int .i64 le)∧W1.cell? ⟨w.heap.size,2,none⟩=some (.int .i64 lf)∧W1.cell? ⟨w.heap.size,3,none⟩=some (.slice va vn vc)∧W1.cell? ⟨w.heap.size,4,none⟩=some (.slice ea en ec)∧W1.cell? ⟨w.heap.size,5,none⟩=some (.slice fa fn fc)∧W1.cell? ⟨wp.heap.size,0,none⟩=some (.slice a1 vn c1)∧W1.cell? ⟨wp.heap.size,1,none⟩=some (.slice a2 en c2) from by have ho:=(HC3 W1 (touch_in HB3.out HW4.out hb (by intro b hb;have h1:=HB3.out.size;first|exact .inl hb|(simp at hb ⊢;omega)))).out;exact ho)
   have HB4:=Lib.hid (Touch.refl ([wq.heap.size]) W4)
   have HZ4:=fun(W1:World) (hb:W4.heap.size≤W1.heap.size)=>Lib.hid (show w.heap.size<W1.heap.size∧wp.heap.size<W1.heap.size from by obtain⟨o0,o1⟩:=(HZ3 _ HB3.out.size).out;have h3:=HW4.out.size;have:=HWs4.out;refine⟨?_, ?_⟩<;>omega)
   clear qx0 qx1 qx2 qx3 qx4 qx5 qx6 qx7 rx0 rx1
   obtain⟨qx0,qx1,qx2,qx3,qx4,qx5,qx6,qx7⟩:=(HC4 _ HB4.out).out
   obtain⟨rx0,rx1⟩:=(HZ4 _ HB4.out.size).out
   have HMA:=Lib.hid (show MapT W4 Try.prog 3 wq.heap.size 0 ekI ekI (fun _=>none) from by rw[←hW4];exact MapT.made wq Try.prog 3 ekI ekI)
   have HMF:=Lib.hid (show MapT W4 Try.prog 45 wl.heap.size (2*k) ekH ekI (gfM es) from by rw[←hW4];exact HMQ.out.alloc _)
   have HX4:=Lib.hid (below_step HW4.out HXQ.out)
   have HVT:=fun(W1:World) (t:Touch [wq.heap.size] W4 W1)=>Lib.hid (show EsIn W1 wp.heap.size a2 en (pOf vs es).es∧VsIn W1 wp.heap.size a1 vn (pOf vs es).vs∧wp.heap.size≤W1.heap.size from by
    have h1:=HW2.out
    have h2:=HB2.out
    have hq:wp.heap.size≤W2.heap.size:=HW2.out.size
    have h3:Below wp.heap.size wp wl:=h1.trans (h2.mono hq)
    have h4:Below wp.heap.size wp W3:=below_step HW3.out h3
    have h5:Below wp.heap.size wp wq:=h4.trans (HB3.out.below h4.size (by have:=h3.size;simp;omega))
    have h6:Below wp.heap.size wp W4:=below_step HW4.out h5
    have h7:Below wp.heap.size wp W1:=h6.trans (t.below h6.size (by have:=h5.size;simp;omega))
    exact⟨HEP.out.below h7,HVP.out.below h7,h7.size⟩)
   clear hW4 HMQ hlt
   go_wp2_with fail
   clear qx0 qx1 qx2 qx3 qx4 qx5 qx6 qx7 rx0 rx1
   go_loopw [85] (fun v wr=> ∃j:Nat,j≤vn∧v= .int .i64 j∧MapT wr Try.prog 3 wq.heap.size j ekI ekI (gaM (vs.take j))∧Touch [wq.heap.size] W4 wr) (fun v _=>vn - (intOf v).toNat)
   case atStart=>exact⟨0,Nat.zero_le _,rfl,HMA.out,Touch.refl _ _⟩
   case round=>
    clear HMA HB4
    obtain⟨j,hj,rfl,hma,ht⟩:=hrel
    obtain⟨wz,rfl⟩: ∃x:World,x=wr:=⟨_,rfl⟩
    have HMA:=Lib.hid hma
    have HB4:=Lib.hid ht
    have HXZ:=Lib.hid (show Below w.heap.size w wz from HX4.out.trans (ht.below HX4.out.size (by have:=HWQ.out;simp;omega)))
    have HWZ:=Lib.hid (show wq.heap.size<wz.heap.size from by have h1:=ht.size;have h2:=HWs4.out;omega)
    clear hma ht
    by_cases hlj:j<vn
    ·skip
     obtain⟨vb,voff,v,rfl,hvb,hv,hcs⟩:=(HV.out.below (HXZ.out.mono hB)).at_ hlj
     have HVK:=Lib.hid hv
     have hvw:vb<wz.heap.size:=Nat.lt_of_lt_of_le hvb (Nat.le_trans hB HXZ.out.size)
     have hvm:=List.mem_of_getElem? hv
     have HKI:=Lib.hid (key_i (x:=v.id) (HFT.out.pl.vs (vxOf v) (List.mem_map_of_mem hvm)).1)
     clear hv hvm
     have HCV:=Lib.hid (show(wz.alloc (.cells #[.int .i64 v.id, .int .i64 v.x, .int .i64 v.y, .int .i64 v.f] 141)).cell? ⟨wz.heap.size,0,none⟩=some (.int .i64 v.id)∧(wz.alloc (.cells #[.int .i64 v.id, .int .i64 v.x, .int .i64 v.y, .int .i64 v.f] 141)).cell? ⟨wz.heap.size,2+1,none⟩=some (.int .i64 v.f) from by simp[World.cell?_alloc_new])
     have HQ9:=fun(w6:World) (g:(wz.alloc (.cells #[.int .i64 v.id, .int .i64 v.x, .int .i64 v.y, .int .i64 v.f] 141)).grownBy w6 (some wq.heap.size))=>Lib.hid (show Touch [wq.heap.size] W4 w6∧w6.cell? ⟨wz.heap.size,0,none⟩=some (.int .i64 v.id)∧w6.cell? ⟨wz.heap.size,3,none⟩=some (.int .i64 v.f)∧wz.heap.size<w6.heap.size from by
      have k1:=Touch.of_grown g
      have h1:=HWZ.out
      have hs:=k1.size
      simp at hs
      exact⟨(HB4.out.trans (Touch.of_below (F:=[]) (below_alloc (Below.refl _ _))) (by simp)).trans k1 (by simp),(k1.cell (p:=⟨wz.heap.size,0,none⟩) (by simp) (by simp;omega)).trans HCV.out.1,(k1.cell (p:=⟨wz.heap.size,3,none⟩) (by simp) (by simp;omega)).trans HCV.out.2,by omega⟩)
     go_wp2_with (at_mapUpdate;refine wpList_update_T _ rfl _ _ _ 138 rfl 3 3 Try.keyInt Try.underlying138 wq.heap.size j ekI ekI (gaM (vs.take j)) (HMA.out.alloc _) rfl (by unfold maxLen;omega) v.id _ rfl HKI.out (ekI_inj _) v.f rfl ?_;intro w6 hm6 hg6;have HM6:=Lib.hid hm6;have HQ6:=HQ9 w6 hg6;have qz:=(HC4 _ HQ6.out.1).out;have qy:=HQ6.out.2;clear hm6 hg6 hcs)
     refine(degree_any (w:=w6) (ec:=c2) (HVT _ HQ6.out.1).out.1 (HVT _ HQ6.out.1).out.2.2 (by omega) (.slice a1 vn c1) ⟨_,_,_,rfl⟩ v.id).mono ?_
     rintro e w7 ⟨rfl,hb7⟩
     have HM7:=Lib.hid (show MapT w7 Try.prog 3 wq.heap.size (j+1) ekI ekI (gaM (vs.take (j+1))) from by
      rw[take_snoc' HVK.out,gaM_snoc]
      exact HM6.out.below hb7)
     have HB7:=Lib.hid (HQ6.out.1.trans (Touch.of_below (F:=[]) hb7) (by simp))
     have HX7:=Lib.hid (show Below w.heap.size w w7 from HX4.out.trans (HB7.out.below HX4.out.size (by have:=HWQ.out;simp;omega)))
     have c3:w7.cell? ⟨wz.heap.size,3,none⟩=some (.int .i64 v.f):=(hb7.cell (p:=⟨wz.heap.size,3,none⟩) HQ6.out.2.2.2).trans HQ6.out.2.2.1
     generalize deg (pOf vs es).es v.id=d
     clear hb7 qz qy
     by_cases hd:0<d
     ·cases hq:(v.f== -1)
      ·go_wp2_with fail
       go_ret
       exact CkPost.bad HX7.out
      ·go_wp2_with fail
       go_roundw
       case rel=>exact⟨j+1,by omega,by go_num,HM7.out,HB7.out⟩
       case measure=>simp[intOf];omega
     ·go_wp2_with fail
      go_roundw
      case rel=>exact⟨j+1,by omega,by go_num,HM7.out,HB7.out⟩
      case measure=>simp[intOf];omega
    ·skip
     have HMAZ:=Lib.hid (show MapT wz Try.prog 3 wq.heap.size j ekI ekI (gaM vs) from by
      have h:=HMA.out
      rw[List.take_of_length_le (by have:=HV.out.1;omega)] at h
      exact h)
     have HMFZ:=Lib.hid (HMF.out.touch HB4.out (by have:=HMU.out;simp;omega))
     have HPZ:=HVT _ HB4.out
     have HWZ3:=Lib.hid HXZ.out.size
     clear HMA HMF
     obtain⟨qx0,qx1,qx2,qx3,qx4,qx5,qx6,qx7⟩:=(HC4 _ HB4.out).out
     obtain⟨rx0,rx1⟩:=(HZ4 _ HB4.out.size).out
     go_wp2_with fail
     first|refine wp_name (fun W5 hW5=> ?_)|refine calls_name (fun W5 hW5=> ?_)
     have HW5:Hid (Below wz.heap.size wz W5):=Lib.hid (by rw[←hW5];repeat (first|exact Below.refl _ _|refine below_alloc ?_))
     have HWs5:Hid (W5.heap.size=wz.heap.size+1):=Lib.hid (by rw[←hW5];simp)
     skip
     have HC5:=fun(W1:World) (hb:Touch ([wz.heap.size]) W5 W1)=>Lib.hid (show W1.cell? ⟨w.heap.size,0,none⟩=some (.int .i64 lv)∧W1.cell? ⟨w.heap.size,1,none⟩=some (.int .i64 le)∧W1.cell? ⟨w.heap.size,2,none⟩=some (.int .i64 lf)∧W1.cell? ⟨w.heap.size,3,none⟩=some (.slice va vn vc)∧W1.cell? ⟨w.heap.size,4,none⟩=some (.slice ea en ec)∧W1.cell? ⟨w.heap.size,5,none⟩=some (.slice fa fn fc)∧W1.cell? ⟨wp.heap.size,0,none⟩=some (.slice a1 vn c1)∧W1.cell? ⟨wp.heap.size,1,none⟩=some (.slice a2 en c2) from by have ho:=(HC4 W1 (touch_in HB4.out HW5.out hb (by intro b hb;have h1:=HB4.out.size;first|exact .inl hb|(simp at hb ⊢;omega)))).out;exact ho)
     have HB5:=Lib.hid (Touch.refl ([wz.heap.size]) W5)
     have HZ5:=fun(W1:World) (hb:W5.heap.size≤W1.heap.size)=>Lib.hid (show w.heap.size<W1.heap.size∧wp.heap.size<W1.heap.size from by obtain⟨o0,o1⟩:=(HZ4 _ HB4.out.size).out;have h3:=HW5.out.size;have:=HWs5.out;refine⟨?_, ?_⟩<;>omega)
     clear qx0 qx1 qx2 qx3 qx4 qx5 qx6 qx7 rx0 rx1
     obtain⟨qx0,qx1,qx2,qx3,qx4,qx5,qx6,qx7⟩:=(HC5 _ HB5.out).out
     obtain⟨rx0,rx1⟩:=(HZ5 _ HB5.out.size).out
     have HM5:=Lib.hid (show MapT W5 Try.prog 45 wl.heap.size (2*k) ekH ekI (gfM es)∧MapT W5 Try.prog 3 wq.heap.size j ekI ekI (gaM vs)∧MapN W5 Try.prog 3 wz.heap.size 0 ekI evB (fun _=>none) from by
      rw[←hW5]
      exact⟨HMFZ.out.alloc _,HMAZ.out.alloc _,MapN.made wz Try.prog 3 ekI evB⟩)
     have HX5:=Lib.hid (below_step HW5.out HXZ.out)
     have HP5:=Lib.hid (show EsIn W5 wp.heap.size a2 en (pOf vs es).es∧VsIn W5 wp.heap.size a1 vn (pOf vs es).vs∧wp.heap.size≤W5.heap.size from⟨HPZ.out.1.below (HW5.out.mono HPZ.out.2.2),HPZ.out.2.1.below (HW5.out.mono HPZ.out.2.2),Nat.le_trans HPZ.out.2.2 HW5.out.size⟩)
     clear hW5 HMAZ HMFZ
     refine(Realms_any (w:=W5) (vc:=c1) (ec:=c2) HR.out HP5.out.2.1 HP5.out.1 HP5.out.2.2 hcap HFT.out.pl).mono ?_
     rintro e w6 ⟨g,ra,rn,rc,rfl,hg,hg0,hrk,hb6⟩
     have hrl:=hrk.in_
     rw[HR.out.realms_agree hg HR.out.pieceR_fn hg0 (fun id _=>pieceR_no id)] at hrl
     have HRL:=Lib.hid (show RlIn w6 w6.heap.size ra rn (parts18 (pOf vs es)) from hrl)
     have HLIM:=Lib.hid (HR.out.lim18 (pieceR (pOf vs es)) (-1))
     have HRN:=Lib.hid (show rn=(parts18 (pOf vs es)).length from hrl.1)
     have hrnb:rn≤5000:=by
      have h1:=HLIM.out.2
      have h2:rn=(realmsP (pOf vs es) (pieceR (pOf vs es)) (-1)).length:=hrl.1
      omega
     have HB5:=Lib.hid (HB5.out.trans (Touch.of_below (F:=[]) hb6) (by simp))
     have HM6:=Lib.hid (show MapT w6 Try.prog 45 wl.heap.size (2*k) ekH ekI (gfM es)∧MapT w6 Try.prog 3 wq.heap.size j ekI ekI (gaM vs)∧MapN w6 Try.prog 3 wz.heap.size 0 ekI evB (fun _=>none) from⟨HM5.out.1.below hb6,HM5.out.2.1.below hb6,HM5.out.2.2.below hb6⟩)
     have HX6:=Lib.hid (below_step hb6 HX5.out)
     have HZ6:=Lib.hid (show wz.heap.size<w6.heap.size from by have:=HWs5.out;have:=hb6.size;omega)
     clear hg hg0 hrl hb6 hrk
     clear qx0 qx1 qx2 qx3 qx4 qx5 qx6 qx7 rx0 rx1
     obtain⟨qx0,qx1,qx2,qx3,qx4,qx5,qx6,qx7⟩:=(HC5 _ HB5.out).out
     obtain⟨rx0,rx1⟩:=(HZ5 _ HB5.out.size).out
     go_wp2_with fail
     clear qx0 qx1 qx2 qx3 qx4 qx5 qx6 qx7 rx0 rx1
     go_loopw [109] (fun v wr=> ∃(q:Nat) (gm:Int→Option Bool),q≤rn∧v= .int .i64 q∧MapN wr Try.prog 3 wz.heap.size q ekI evB gm∧(∀y,gm y≠some false)∧(∀i x,i<q→(parts18 (pOf vs es))[i]? =some x→ ∃id,oneB (gfM es) (gaM vs) x id=true)∧Touch [wz.heap.size] w6 wr) (fun v _=>rn - (intOf v).toNat)
     case atStart=>exact⟨0,fun _=>none,Nat.zero_le _,rfl,HM6.out.2.2,fun y=>(by simp),fun i x hi=>absurd hi (by omega),Touch.refl _ _⟩
     case round=>
      obtain⟨q,gm,hq,rfl,hme,hgm,hall,ht⟩:=hrel
      obtain⟨ws,rfl⟩: ∃x:World,x=wr:=⟨_,rfl⟩
      have HME:=Lib.hid hme
      have HGM:=Lib.hid hgm
      have HAQ:=Lib.hid hall
      have HTS:=Lib.hid ht
      have HXS:=Lib.hid (show Below w.heap.size w ws from HX6.out.trans (ht.below HX6.out.size (by have:=HWZ3.out;simp;omega)))
      have HMS:=Lib.hid (show MapT ws Try.prog 45 wl.heap.size (2*k) ekH ekI (gfM es)∧MapT ws Try.prog 3 wq.heap.size j ekI ekI (gaM vs) from⟨HM6.out.1.touch ht (by have h1:=HMU.out;have h2:=HWZ.out;simp;omega),HM6.out.2.1.touch ht (by have h2:=HWZ.out;simp;omega)⟩)
      have HRS:=Lib.hid (HRL.out.beside ht (fun b hb i=>by rw[List.mem_singleton.1 hb];exact HM6.out.2.2.toT.nocell i) (Nat.le_refl _))
      clear hme hgm hall ht
      by_cases hlq:q<rn
      ·skip
       obtain⟨rb,roff,x,oa,oc,ia,ic,la,lc,rfl,hrb,hx,hat⟩:=HRS.out.at_ hlq
       have HXK:=Lib.hid hx
       have hxm:=List.mem_of_getElem? hx
       have HPK:=Lib.hid (HLIM.out.1 x hxm)
       have HPF:=Lib.hid (part_fit HR.out HFT.out.pl (pieceR (pOf vs es)) (-1) hxm)
       have hrbw:rb<ws.heap.size:=Nat.lt_of_lt_of_le hrb HTS.out.size
       have k0:=hat.c0
       have k1:=hat.c1
       have k2:=hat.c2
       have HOW:=Lib.hid (show HsIn ws w6.heap.size oa x.outer.length x.outer∧RgIn ws w6.heap.size ia x.inner.length x.inner∧NsIn ws w6.heap.size la x.alone.length x.alone from⟨hat.outer,hat.inner,hat.alone⟩)
       obtain⟨X,hXX⟩: ∃X,X=ws.alloc (.cells #[.slice oa x.outer.length oc, .slice ia x.inner.length ic, .slice la x.alone.length lc] 41):=⟨_,rfl⟩
       have HXE:=Lib.hid hXX
       have hwX:Below ws.heap.size ws X:=by rw[hXX];exact below_alloc (Below.refl _ _)
       have HOX:=Lib.hid (show HsIn X w6.heap.size oa x.outer.length x.outer∧RgIn X w6.heap.size ia x.inner.length x.inner∧NsIn X w6.heap.size la x.alone.length x.alone from⟨HOW.out.1.below (hwX.mono HTS.out.size),HOW.out.2.1.below (hwX.mono HTS.out.size),HOW.out.2.2.below (hwX.mono HTS.out.size)⟩)
       have HSX:=Lib.hid (Nat.le_trans HTS.out.size hwX.size)
       have HMX:=Lib.hid (show MapT X Try.prog 45 wl.heap.size (2*k) ekH ekI (gfM es)∧MapT X Try.prog 3 wq.heap.size j ekI ekI (gaM vs)∧MapN X Try.prog 3 wz.heap.size q ekI evB gm∧Touch [wz.heap.size] w6 X from⟨HMS.out.1.below hwX,HMS.out.2.below hwX,HME.out.below hwX,HTS.out.trans (Touch.of_below (F:=[]) hwX) (by simp)⟩)
       have HXX:=Lib.hid (below_step hwX HXS.out)
       clear hx hat hwX hxm
       by_cases hq0:0<q
       ·skip
        have hpos:0<x.outer.length:=by
         have h1:((parts18 (pOf vs es)).map (·.outer))[q]? =some x.outer:=by rw[List.getElem?_map,HXK.out];rfl
         unfold parts18 at h1
         rw[realms_outer] at h1
         obtain⟨q2,rfl⟩: ∃q2,q=q2+1:=⟨q - 1,by omega⟩
         rw[List.getElem?_cons_succ] at h1
         have h2:=(List.mem_filter.1 (List.mem_of_getElem? h1)).1
         obtain⟨s0,m0,hring⟩:=HR.out.rings.1 _ h2
         exact List.length_pos_iff.2 hring.ne
        obtain⟨h0,hh0⟩: ∃h0,x.outer[0]? =some h0:=⟨_,List.getElem?_eq_getElem hpos⟩
        have HH0:=Lib.hid hh0
        have hqi:(0:Int)<(q:Int):=by omega
        obtain⟨ob,ooff,rfl,hob,hoc⟩:=HOW.out.1.row9 hpos
        obtain⟨o0,o1⟩:=hoc ws (Below.refl _ _) 0 h0 hh0
        rw[Nat.zero_mul,Nat.add_zero] at o0 o1
        have hobw:ob<ws.heap.size:=Nat.lt_of_lt_of_le hob HTS.out.size
        obtain⟨idv,hidv⟩: ∃idv,idv=(gfM es h0).getD 0:=⟨_,rfl⟩
        have HFI:=Lib.hid (show fitI idv from by
         rw[hidv]
         cases e:gfM es h0 with
         |none=>exact⟨by decide,by decide⟩
         |some v=>exact gfM_fit HFT.out.e h0 v e)
        have lku:=(HMX.out.1).look Try.keyHalf Try.underlying114 (zeroInt X) (key_h (HPF.out.1 h0 (List.mem_append_left _ (List.mem_of_getElem? hh0))))
        rw[show(((gfM es h0).map ekI).getD (.int .i64 0))= .int .i64 idv from by rw[hidv];cases gfM es h0<;>rfl] at lku
        rw[HXE.out] at lku
        unfold ekH at lku
        clear hh0 hoc hidv
        go_wp2_with fail
        rw[←HXE.out]
        refine(one_any (w:=X) (B:=w6.heap.size) (oc:=oc) (ic:=ic) (lc:=lc) HOX.out.1 HOX.out.2.1 HOX.out.2.2 HSX.out HPK.out.inner HPK.out.rings HPK.out.alone HMX.out.1 HMX.out.2.1 HPF.out.1 HPF.out.2 (idv)).mono ?_
        rintro e w7 ⟨rfl,hb7⟩
        have HME7:=Lib.hid (HMX.out.2.2.1.below hb7)
        have HT7:=Lib.hid (HMX.out.2.2.2.trans (Touch.of_below (F:=[]) hb7) (by simp))
        have HX7:=Lib.hid (below_step hb7 HXX.out)
        have lk:(Instr.lookup 144 (.map (some wz.heap.size)) (.int .i64 (idv)) false).run Try.prog w7= .ok (.bool ((gm (idv)).getD false)) w7:=by
         have:=HME7.out.toT.look Try.keyInt Try.underlying144 (zeroBool w7) (key_i (x:=idv) HFI.out)
         rw[show(Value.int .i64 (idv))=ekI (idv) from rfl,this]
         cases gm (idv)<;>rfl
        clear hb7
        cases hone:oneB (gfM es) (gaM vs) x (idv)
        case false=>
         clear hone
         go_wp2_with fail
         go_ret
         exact CkPost.bad HX7.out
        have HONE:=Lib.hid hone
        clear hone
        cases hgi:gm (idv)
        case some bb=>
         have hbb:bb=true:=by
          cases bb
          ·exact absurd hgi (HGM.out _)
          ·rfl
         subst hbb
         rw[hgi] at lk
         simp only[Option.getD_some] at lk
         clear hgi
         go_wp2_with fail
         go_ret
         exact CkPost.bad HX7.out
        rw[hgi] at lk
        simp only[Option.getD_none] at lk
        have HGI:=Lib.hid hgi
        clear hgi
        by_cases hz:idv=0
        ·have hz1:(idv==0)=true:=by simp[hz]
         clear hz
         go_wp2_with fail
         go_ret
         exact CkPost.bad HX7.out
        ·have hz1:(idv==0)=false:=by simp[hz]
         clear hz
         go_wp2_with (at_mapUpdate;refine wpList_update_N _ rfl _ _ _ 144 rfl 3 4 Try.keyInt Try.underlying144 wz.heap.size q ekI evB gm HME7.out rfl (by unfold maxLen;omega) (idv) _ rfl (key_i (x:=idv) HFI.out) (ekI_inj _) HGI.out true rfl ?_;intro w8 hm8 hg8;have HM8:=Lib.hid hm8;have HT8:=Lib.hid (HT7.out.trans (Touch.of_grown hg8) (by simp));clear hm8 hg8 lk)
         go_roundw
         case rel=>
          refine⟨q+1,updT gm (idv) true,by omega,by go_num,HM8.out,fun y=> ?_,fun i y hi hy=> ?_,HT8.out⟩
          ·unfold updT
           split
           ·simp
           ·exact HGM.out y
          ·by_cases e1:i=q
           ·subst e1
            rw[HXK.out] at hy
            cases hy
            exact⟨_,HONE.out⟩
           ·exact HAQ.out i y (by omega) hy
         case measure=>simp[intOf];omega
       ·skip
        have hqi: ¬(0:Int)<(q:Int):=by omega
        have HFI:=Lib.hid (show fitI 0 from⟨by decide,by decide⟩)
        go_wp2_with fail
        rw[←HXE.out]
        refine(one_any (w:=X) (B:=w6.heap.size) (oc:=oc) (ic:=ic) (lc:=lc) HOX.out.1 HOX.out.2.1 HOX.out.2.2 HSX.out HPK.out.inner HPK.out.rings HPK.out.alone HMX.out.1 HMX.out.2.1 HPF.out.1 HPF.out.2 (0)).mono ?_
        rintro e w7 ⟨rfl,hb7⟩
        have HME7:=Lib.hid (HMX.out.2.2.1.below hb7)
        have HT7:=Lib.hid (HMX.out.2.2.2.trans (Touch.of_below (F:=[]) hb7) (by simp))
        have HX7:=Lib.hid (below_step hb7 HXX.out)
        have lk:(Instr.lookup 144 (.map (some wz.heap.size)) (.int .i64 (0)) false).run Try.prog w7= .ok (.bool ((gm (0)).getD false)) w7:=by
         have:=HME7.out.toT.look Try.keyInt Try.underlying144 (zeroBool w7) (key_i (x:=0) HFI.out)
         rw[show(Value.int .i64 (0))=ekI (0) from rfl,this]
         cases gm (0)<;>rfl
        clear hb7
        cases hone:oneB (gfM es) (gaM vs) x (0)
        case false=>
         clear hone
         go_wp2_with fail
         go_ret
         exact CkPost.bad HX7.out
        have HONE:=Lib.hid hone
        clear hone
        cases hgi:gm (0)
        case some bb=>
         have hbb:bb=true:=by
          cases bb
          ·exact absurd hgi (HGM.out _)
          ·rfl
         subst hbb
         rw[hgi] at lk
         simp only[Option.getD_some] at lk
         clear hgi
         go_wp2_with fail
         go_ret
         exact CkPost.bad HX7.out
        rw[hgi] at lk
        simp only[Option.getD_none] at lk
        have HGI:=Lib.hid hgi
        clear hgi
        go_wp2_with (at_mapUpdate;refine wpList_update_N _ rfl _ _ _ 144 rfl 3 4 Try.keyInt Try.underlying144 wz.heap.size q ekI evB gm HME7.out rfl (by unfold maxLen;omega) (0) _ rfl (key_i (x:=0) HFI.out) (ekI_inj _) HGI.out true rfl ?_;intro w8 hm8 hg8;have HM8:=Lib.hid hm8;have HT8:=Lib.hid (HT7.out.trans (Touch.of_grown hg8) (by simp));clear hm8 hg8 lk)
        go_roundw
        case rel=>
         refine⟨q+1,updT gm (0) true,by omega,by go_num,HM8.out,fun y=> ?_,fun i y hi hy=> ?_,HT8.out⟩
         ·unfold updT
          split
          ·simp
          ·exact HGM.out y
         ·by_cases e1:i=q
          ·subst e1
           rw[HXK.out] at hy
           cases hy
           exact⟨_,HONE.out⟩
          ·exact HAQ.out i y (by omega) hy
        case measure=>simp[intOf];omega
      ·skip
       have HONES:=Lib.hid (show∀x∈parts18 (pOf vs es), ∃id,oneB (gfM es) (gaM vs) x id=true from fun x hx=>by
        obtain⟨i,hi⟩:=List.mem_iff_getElem?.1 hx
        exact HAQ.out i x (by have:=(List.getElem?_eq_some_iff.1 hi).1;have:=HRN.out;omega) hi)
       have HQN:=Lib.hid (show q=(parts18 (pOf vs es)).length from by have:=HRN.out;omega)
       have hqb:q≤5000:=by omega
       have HB5:=Lib.hid (HB5.out.trans HTS.out (fun b hb=> .inl hb))
       clear HAQ
       obtain⟨qx0,qx1,qx2,qx3,qx4,qx5,qx6,qx7⟩:=(HC5 _ HB5.out).out
       obtain⟨rx0,rx1⟩:=(HZ5 _ HB5.out.size).out
       go_wp2_with fail
       clear qx0 qx1 qx2 qx3 qx4 qx5 qx6 qx7 rx0 rx1
       clear hlq
       go_loopw [147] (fun v wr=> ∃t:Nat,t≤fn∧v= .int .i64 t∧Below ws.heap.size ws wr) (fun v _=>fn - (intOf v).toNat)
       case atStart=>exact⟨0,Nat.zero_le _,rfl,Below.refl _ _⟩
       case round=>
        obtain⟨t,ht,rfl,hb⟩:=hrel
        obtain⟨wt,rfl⟩: ∃x:World,x=wr:=⟨_,rfl⟩
        have HBT:=Lib.hid hb
        have HXT:=Lib.hid (HXS.out.trans (hb.mono HXS.out.size))
        clear hb
        by_cases htl:t<fn
        ·obtain⟨fb,foff,f,rfl,hfb,hf,hcs⟩:=(HF.out.below (HXT.out.mono hB)).at_ htl
         have hfw:fb<wt.heap.size:=Nat.lt_of_lt_of_le hfb (Nat.le_trans hB HXT.out.size)
         have HBX:=Lib.hid (HBT.out.alloc HBT.out.size (.cells #[.int .i64 f.id, .int .i64 f.at_] 83))
         have lk:=(HME.out.below HBX.out).toT.look Try.keyInt Try.underlying144 (zeroBool _) (key_i (x:=f.id) (HFT.out.f f (List.mem_of_getElem? hf)))
         unfold ekI evB at lk
         clear hf
         cases hgi:gm f.id with
         |none=>
          rw[hgi] at lk
          simp only[Option.map_none,Option.getD_none] at lk
          clear hgi
          go_wp2_with fail
          go_ret
          exact CkPost.bad (HXT.out.alloc HXT.out.size _)
         |some bb=>
          have hbb:bb=true:=by
           cases bb
           ·exact absurd hgi (HGM.out _)
           ·rfl
          subst hbb
          rw[hgi] at lk
          simp only[Option.map_some,Option.getD_some] at lk
          clear hgi
          go_wp2_with fail
          go_roundw
          case rel=>exact⟨t+1,by omega,by go_num,HBX.out⟩
          case measure=>simp[intOf];omega
        ·have HB5:=Lib.hid (HB5.out.trans (Touch.of_below (F:=[]) HBT.out) (by simp))
         have ln:=(HME.out.below HBT.out).len Try.underlying144 3
         obtain⟨qx0,qx1,qx2,qx3,qx4,qx5,qx6,qx7⟩:=(HC5 _ HB5.out).out
         obtain⟨rx0,rx1⟩:=(HZ5 _ HB5.out.size).out
         by_cases hqf:q=fn
         ·have hz:((q:Int)==(fn:Int))=true:=by simp[hqf]
          have HS:=Lib.hid (show Sound vs es fs from⟨HR.out,HLO.out,HONES.out,by have h1:=HF.out.1;have h2:=HQN.out;omega⟩)
          clear hqf
          go_wp2_with fail
          go_ret
          exact⟨.inr ⟨rfl,HS.out⟩,HXT.out⟩
         ·have hz:((q:Int)==(fn:Int))=false:=by simp;omega
          clear hqf
          go_wp2_with fail
          go_ret
          exact CkPost.bad HXT.out
end Go.Proofs.Ythopjhifepijiaa
namespace Go.Proofs.Ythopjhifepijiaa
open Go.RowKit Go.Joins
theorem flatMap_set {α β:Type} {f:α→List β} {n:Nat} (hf: ∀x,(f x).length=n): ∀(l:List α) (i j:Nat) (x x':α) (u:β),l[i]? =some x→j<n→f x'=(f x).set j u→(l.flatMap f).set (i*n+j) u=(l.set i x').flatMap f
 | [],i,j,x,x',u,h,_,_=>by simp at h
 |y::l,0,j,x,x',u,h,hj,hu=>by
  simp at h
  subst h
  rw[List.flatMap_cons,List.set_cons_zero,List.flatMap_cons,hu,Nat.zero_mul,Nat.zero_add,List.set_append_left (h:=by rw[hf];exact hj)]
 |y::l,i+1,j,x,x',u,h,hj,hu=>by
  rw[List.flatMap_cons,List.set_cons_succ,List.flatMap_cons,List.set_append_right (h:=by rw[hf,Nat.succ_mul];omega),hf,show(i+1)*n+j - n=i*n+j by rw[Nat.succ_mul];omega,flatMap_set hf l i j x x' u (by simpa using h) hj hu]
section
variable {w:World} {B g n cap s:Nat} {e:TypeId} {xs:List Value} {f:Nat→Value}
theorem ownsRow_rows (h:w.ownsRow B e s (.slice (some ⟨g,0,none⟩) n cap) n xs):B≤g∧n≤cap∧cap≤maxLen∧xs.length=n*s∧ ∃f,w.rowIs g e (cap*s) f∧ ∀i,i<n*s→xs[i]? =some (f i):=by
 obtain⟨hl,h⟩:=h
 rcases h with ⟨hv, -⟩|⟨g',cap',cur,hv,hb,hg,h1,h2,h3,h4⟩
 ·cases hv
 ·cases hv
  have h5:n*s≤cap*s:=Nat.mul_le_mul_right s h1
  refine⟨hb,h1,h2,hl,fun i=>cur.getD i (.int .i64 0),⟨cur,hg,h3,fun i hi=> ?_⟩,fun i hi=> ?_⟩
  ·show cur[i]? =some (cur.getD i _)
   rw[Array.getD_eq_getD_getElem?,Array.getElem?_eq_getElem (by omega)];rfl
  ·show xs[i]? =some (cur.getD i _)
   rw[←h4,List.getElem?_take_of_lt hi,Array.getElem?_toList,Array.getD_eq_getD_getElem?,Array.getElem?_eq_getElem (by omega)];rfl
theorem ownsRow_of_rows (h:w.rowIs g e (cap*s) f) (hB:B≤g) (hn:n≤cap) (hm:cap≤maxLen) (hl:xs.length=n*s) (hx: ∀i,i<n*s→xs[i]? =some (f i)):w.ownsRow B e s (.slice (some ⟨g,0,none⟩) n cap) n xs:=by
 obtain⟨cur,hg,hs,hc⟩:=h
 have h5:n*s≤cap*s:=Nat.mul_le_mul_right s hn
 refine⟨hl, .inr ⟨g,cap,cur,rfl,hB,hg,hn,hm,hs, ?_⟩⟩
 apply List.ext_getElem?
 intro i
 by_cases hi:i<n*s
 ·rw[List.getElem?_take_of_lt hi,Array.getElem?_toList,hc i (by omega),hx i hi]
 ·rw[List.getElem?_eq_none (by rw[List.length_take];omega),List.getElem?_eq_none (by omega)]
theorem ownsRow_put (h:w.ownsRow B e s (.slice (some ⟨g,0,none⟩) n cap) n xs) {i:Nat} (hi:i<n*s) (x:Value):(w.setCell ⟨g,i,none⟩ x).ownsRow B e s (.slice (some ⟨g,0,none⟩) n cap) n (xs.set i x):=by
 obtain⟨hB,hn,hm,hl,f,hf,hx⟩:=ownsRow_rows h
 refine ownsRow_of_rows (World.rowIs.set hf i x) hB hn hm (by rw[List.length_set];exact hl) (fun j hj=> ?_)
 by_cases e:j=i
 ·subst e
  rw[List.getElem?_set_self (by omega)]
  simp
 ·rw[List.getElem?_set_ne (Ne.symm e),hx j hj,if_neg e]
end
theorem FitT.more {vs:List VR} {es:List ER} {fs:List FR} {f:FR} (h:FitT vs es fs) (hf:fitI f.id):FitT vs es (fs++[f]):=⟨h.pl,h.v,h.e,fun y hy=>by
 rcases List.mem_append.1 hy with hy|hy
 ·exact h.f y hy
 ·simp at hy;subst hy;exact hf⟩
structure TW (w:World) (lo:Nat) (V E F:Value) (vs:List VR) (es:List ER) (fs:List FR):Prop where
 rv:w.ownsRow lo 141 4 V vs.length (vs.flatMap vrC)
 re:w.ownsRow lo 81 13 E es.length (es.flatMap erC)
 rf:w.ownsRow lo 83 2 F fs.length (fs.flatMap frC)
section
variable {p:PL} {w w':World} {lo:Nat} {V E F:Value} {vs:List VR} {es:List ER} {fs:List FR}
theorem DrT.tw (d:DrT p w lo V E F vs es fs):TW w lo V E F vs es fs:=⟨d.rv,d.re,d.rf⟩
theorem TW.touch {G:List Nat} (h:TW w lo V E F vs es fs) (t:Touch G w w') (hG: ∀b∈G,b<lo∨w.heap.size≤b):TW w' lo V E F vs es fs:=by
 have ho: ∀ {e:TypeId} {s m:Nat} {v:Value} {xs:List Value},w.ownsRow lo e s v m xs→w'.ownsRow lo e s v m xs:=fun h1=>ownsRow_touch h1 t (fun g hg hm=>by
  have h2:=h1.lt g hg
  rcases hG g hm with h3|h3<;>omega)
 exact⟨ho h.rv,ho h.re,ho h.rf⟩
theorem TW.below (h:TW w lo V E F vs es fs) (hb:Below w.heap.size w w'):TW w' lo V E F vs es fs:=h.touch (Touch.of_below (F:=[]) hb) (by simp)
theorem TW.put {g n cap i j:Nat} {x x':ER} {u:Value} (h:TW w lo V (.slice (some ⟨g,0,none⟩) n cap) F vs es fs) (hn:n=es.length) (hx:es[i]? =some x) (hj:j<13) (hu:erC x'=(erC x).set j u):TW (w.setCell ⟨g,i*13+j,none⟩ u) lo V (.slice (some ⟨g,0,none⟩) n cap) F vs (es.set i x') fs:=by
 subst hn
 have hi:=(List.getElem?_eq_some_iff.1 hx).1
 have t:Touch [g] w (w.setCell ⟨g,i*13+j,none⟩ u):=(Touch.refl _ _).setCell (.inl (by simp)) _
 have a1:=fun q (hq:V.ownBlock=some q)=>own_apart h.rv h.re (by decide) hq
 have a2:=fun q (hq:F.ownBlock=some q)=>own_apart h.rf h.re (by decide) hq
 refine⟨ownsRow_touch h.rv t (fun q hq hm=> ?_), ?_,ownsRow_touch h.rf t (fun q hq hm=> ?_)⟩
 ·simp at hm;subst hm;exact a1 q hq rfl
 ·have h1:=ownsRow_put h.re (i:=i*13+j) (by omega) u
  rw[flatMap_set (n:=13) (fun _=>rfl) es i j x x' u hx hj hu] at h1
  rw[List.length_set]
  exact h1
 ·simp at hm;subst hm;exact a2 q hq rfl
theorem TW.cells {g n cap i:Nat} {x:ER} (h:TW w lo V (.slice (some ⟨g,0,none⟩) n cap) F vs es fs) (hn:n=es.length) (hx:es[i]? =some x):w.cell? ⟨g,i*13,none⟩=some (.int .i64 x.id)∧w.cell? ⟨g,i*13+1,none⟩=some (.int .i64 x.a)∧w.cell? ⟨g,i*13+2,none⟩=some (.int .i64 x.b)∧w.cell? ⟨g,i*13+3,none⟩=some (.int .i64 x.n0)∧w.cell? ⟨g,i*13+4,none⟩=some (.bool x.m0)∧w.cell? ⟨g,i*13+5,none⟩=some (.int .i64 x.n1)∧w.cell? ⟨g,i*13+6,none⟩=some (.bool x.m1)∧w.cell? ⟨g,i*13+7,none⟩=some (.int .i64 x.p0)∧w.cell? ⟨g,i*13+8,none⟩=some (.bool x.q0)∧w.cell? ⟨g,i*13+9,none⟩=some (.int .i64 x.p1)∧w.cell? ⟨g,i*13+10,none⟩=some (.bool x.q1)∧w.cell? ⟨g,i*13+11,none⟩=some (.int .i64 x.f0)∧w.cell? ⟨g,i*13+12,none⟩=some (.int .i64 x.f1):=by
 subst hn
 have hc:=fun j u (hu:(erC x)[j]? =some u)=>(addr_add0 g (i*13+j))▸h.re.cells (g:=g) rfl (j:=i*13+j) (u:=u) (flatMap_get (n:=13) (fun _=>rfl) es i j x u hx hu)
 exact⟨hc 0 _ rfl,hc 1 _ rfl,hc 2 _ rfl,hc 3 _ rfl,hc 4 _ rfl,hc 5 _ rfl,hc 6 _ rfl,hc 7 _ rfl,hc 8 _ rfl,hc 9 _ rfl,hc 10 _ rfl,hc 11 _ rfl,hc 12 _ rfl⟩
theorem TW.frozen {g n cap:Nat} (h:TW w lo V (.slice (some ⟨g,0,none⟩) n cap) F vs es fs) (hn:n=es.length) (j:Nat):w.frozen? ⟨g,j,none⟩=false:=by
 subst hn
 obtain⟨-, -, -, -,f,hf, -⟩:=ownsRow_rows h.re
 exact World.rowIs.frozen hf j
theorem TW.more {Y:Value} {f:FR} {wx w8:World} (h:TW w lo V E F vs es fs) (hb:Below w.heap.size w wx) (hown:w8.ownsRow lo 83 2 Y (fs.length+1) (fs.flatMap frC++frC f)) (hgr:wx.grownBy w8 F.ownBlock):TW w8 lo V E Y vs es (fs++[f]):=by
 have t1:=Touch.of_below (F:=[]) hb
 have t2:=Touch.of_grown hgr
 refine⟨ownsRow_touch (ownsRow_touch h.rv t1 (by simp)) t2 (fun g hg hm=>own_apart h.rv h.rf (by decide) hg (Option.mem_toList.1 hm)),ownsRow_touch (ownsRow_touch h.re t1 (by simp)) t2 (fun g hg hm=>own_apart h.re h.rf (by decide) hg (Option.mem_toList.1 hm)), ?_⟩
 rw[List.flatMap_append,List.length_append,show [f].flatMap frC=frC f by simp]
 exact hown
theorem frIn_of_own {base n c:Nat} {t:TypeId} {a:Option Addr} {l:List FR} (h:w.ownsRow base t 2 (.slice a n c) n (l.flatMap frC)) (hn:n=l.length):FRIn w w.heap.size a n l:=by
 refine⟨hn, ?_⟩
 rcases Nat.eq_zero_or_pos n with h0|h0
 ·exact .inl h0
 ·obtain⟨g,cap,e⟩:=ownsRow_form h h0
  injection e with e1 e2 e3
  subst e1
  refine .inr ⟨g,0,rfl,(h.lt g rfl).2,fun i v hv=> ?_⟩
  have hc:=fun j u (hu:(frC v)[j]? =some u)=>(addr_add0 g (i*2+j))▸h.cells (g:=g) rfl (j:=i*2+j) (u:=u) (flatMap_get (n:=2) (fun _=>rfl) l i j v u hv hu)
  simp only[Nat.zero_add]
  exact⟨hc 0 _ rfl,hc 1 _ rfl⟩
theorem TW.check {vn en fn vc ec fc:Nat} {va ea fa:Option Addr} (h:TW w lo (.slice va vn vc) (.slice ea en ec) (.slice fa fn fc) vs es fs) (hn:vn=vs.length∧en=es.length∧fn=fs.length) (n1:vn≤100) (n2:en≤100) (n3:fn≤1000) (hfit:FitT vs es fs) (hs: ¬Sound vs es fs) (lv le lf:Int) (f1:fitI lv) (f2:fitI le) (f3:fitI lf):
  Calls Try.prog 30 #[.agg #[.int .i64 lv, .int .i64 le, .int .i64 lf, .slice va vn vc, .slice ea en ec, .slice fa fn fc]] w fun e w'=>e= .returned (.int .i64 19)∧Below w.heap.size w w':=by
 obtain⟨e1,e2,e3⟩:=hn
 have h1:=h.rv
 have h2:=h.re
 have h3:=h.rf
 rw[←e1] at h1
 rw[←e2] at h2
 rw[←e3] at h3
 refine(check_any (vrIn_of_own h1 e1) (erIn_of_own h2 e2) (frIn_of_own h3 e3) (Nat.le_refl _) n1 n2 n3 hfit lv le lf f1 f2 f3).mono ?_
 rintro e w9 ⟨h4|⟨h4,h5⟩,hb⟩
 ·exact⟨h4,hb⟩
 ·exact absurd h5 hs
end
structure TurnAt (w0 w:World) (lo tt bb:Nat) (lv le lf:Int) (V E F:Value) (vs:List VR) (es:List ER) (fs:List FR) (x:ER):Prop where
 tw:TW w lo V E F vs es fs
 tb:w.rowIs tt 73 6 (tdF lv le lf V E F)
 wb:w.rowIs bb 81 13 (erF x)
 b:Below w0.heap.size w0 w
theorem TurnAt.put {w0 w:World} {lo tt bb g n cap i j:Nat} {lv le lf:Int} {V F u:Value} {vs:List VR} {es:List ER} {fs:List FR} {x x':ER} (h:TurnAt w0 w lo tt bb lv le lf V (.slice (some ⟨g,0,none⟩) n cap) F vs es fs x) (hn:n=es.length) (hx:es[i]? =some x) (hg:g≠tt∧g≠bb∧w0.heap.size≤g) (hj:j<13) (hu:erC x'=(erC x).set j u):TurnAt w0 (w.setCell ⟨g,i*13+j,none⟩ u) lo tt bb lv le lf V (.slice (some ⟨g,0,none⟩) n cap) F vs (es.set i x') fs x:=by
 have t:Touch [g] w (w.setCell ⟨g,i*13+j,none⟩ u):=(Touch.refl _ _).setCell (.inl (by simp)) _
 exact⟨h.tw.put hn hx hj hu,rowIs_touch h.tb t (by simp;exact fun e=>hg.1 e.symm),rowIs_touch h.wb t (by simp;exact fun e=>hg.2.1 e.symm),h.b.setCell hg.2.2 _⟩
theorem TurnAt.below {w0 w w':World} {lo tt bb:Nat} {lv le lf:Int} {V E F:Value} {vs:List VR} {es:List ER} {fs:List FR} {x:ER} (h:TurnAt w0 w lo tt bb lv le lf V E F vs es fs x) (hb:Below w.heap.size w w'):TurnAt w0 w' lo tt bb lv le lf V E F vs es fs x:=
 ⟨h.tw.below hb,rowIs_touch h.tb (Touch.of_below (F:=[]) hb) (by simp),rowIs_touch h.wb (Touch.of_below (F:=[]) hb) (by simp),below_step hb h.b⟩
theorem own_row_apart {w:World} {lo s n m tt:Nat} {e T:TypeId} {v:Value} {xs:List Value} {f:Nat→Value} (h:w.ownsRow lo e s v n xs) (r:w.rowIs tt T m f) (hne:e≠T):tt∉v.ownBlock.toList:=fun hm=>by
 have hm:=Option.mem_toList.1 hm
 rcases h.2 with ⟨rfl,_⟩|⟨g1,c1,cur1,rfl,_,hg1,_⟩
 ·cases hm
 ·have a1:g1=tt:=by simpa[Value.ownBlock] using hm
  obtain⟨c,hc, -⟩:=r
  rw[a1,hc] at hg1
  injection hg1 with hg1
  injection hg1 with _ ht _
  exact hne ht.symm
theorem TurnAt.face {w0 w wx w8:World} {lo tt bb:Nat} {lv le lf:Int} {V E F Y:Value} {vs:List VR} {es:List ER} {fs:List FR} {x:ER} {f:FR} (h:TurnAt w0 w lo tt bb lv le lf V E F vs es fs x) (hl:w0.heap.size≤lo∧w0.heap.size≤tt) (hb:Below w.heap.size w wx) (hown:w8.ownsRow lo 83 2 Y (fs.length+1) (fs.flatMap frC++frC f)) (hgr:wx.grownBy w8 F.ownBlock):
  w8.rowIs tt 73 6 (tdF lv le lf V E F)∧ ∀q:Int,TW ((w8.setCell ⟨tt,5,none⟩ Y).setCell ⟨tt,2,none⟩ (.int .i64 q)) lo V E Y vs es (fs++[f])∧((w8.setCell ⟨tt,5,none⟩ Y).setCell ⟨tt,2,none⟩ (.int .i64 q)).rowIs tt 73 6 (tdF lv le q V E Y)∧Below w0.heap.size w0 ((w8.setCell ⟨tt,5,none⟩ Y).setCell ⟨tt,2,none⟩ (.int .i64 q)):=by
 have t1:=Touch.of_below (F:=[]) hb
 have t2:=Touch.of_grown hgr
 have tb8:=rowIs_touch (rowIs_touch h.tb t1 (by simp)) t2 (own_row_apart h.tw.rf h.tb (by decide))
 have tw8:=h.tw.more hb hown hgr
 refine⟨tb8,fun q=> ?_⟩
 have t3:Touch [tt] w8 ((w8.setCell ⟨tt,5,none⟩ Y).setCell ⟨tt,2,none⟩ (.int .i64 q)):=((Touch.refl _ _).setCell (.inl (by simp)) _).setCell (.inl (by simp)) _
 have ho: ∀ {e:TypeId} {s m:Nat} {v:Value} {xs:List Value},w8.ownsRow lo e s v m xs→e≠73→((w8.setCell ⟨tt,5,none⟩ Y).setCell ⟨tt,2,none⟩ (.int .i64 q)).ownsRow lo e s v m xs:=fun h1 hne=>ownsRow_touch h1 t3 (fun g hg hm=>by
  simp at hm
  subst hm
  exact own_row_apart h1 tb8 hne (Option.mem_toList.2 hg))
 refine⟨⟨ho tw8.rv (by decide),ho tw8.re (by decide),ho tw8.rf (by decide)⟩,World.rowIs.congr (World.rowIs.set (World.rowIs.set tb8 5 Y) 2 (.int .i64 q)) (fun i hi=>by rcases i with _|_|_|_|_|_|i<;>first|rfl|omega), ?_⟩
 have hx:=below_step hb h.b
 refine((hx.trans (t2.below hx.size (fun b hm=> ?_))).setCell hl.2 _).setCell hl.2 _
 exact Nat.le_trans hl.1 (h.tw.rf.lt b (Option.mem_toList.1 hm)).1
theorem TurnAt.old {w0 w:World} {lo tt bb:Nat} {lv le lf:Int} {V E F:Value} {vs:List VR} {es:List ER} {fs:List FR} {x:ER} (h:TurnAt w0 w lo tt bb lv le lf V E F vs es fs x):w.cell? ⟨bb,0,none⟩=some (.int .i64 x.id)∧w.cell? ⟨bb,1,none⟩=some (.int .i64 x.a)∧w.cell? ⟨bb,2,none⟩=some (.int .i64 x.b)∧w.cell? ⟨bb,3,none⟩=some (.int .i64 x.n0)∧w.cell? ⟨bb,4,none⟩=some (.bool x.m0)∧w.cell? ⟨bb,5,none⟩=some (.int .i64 x.n1)∧w.cell? ⟨bb,6,none⟩=some (.bool x.m1)∧w.cell? ⟨bb,7,none⟩=some (.int .i64 x.p0)∧w.cell? ⟨bb,8,none⟩=some (.bool x.q0)∧w.cell? ⟨bb,9,none⟩=some (.int .i64 x.p1)∧w.cell? ⟨bb,10,none⟩=some (.bool x.q1)∧w.cell? ⟨bb,11,none⟩=some (.int .i64 x.f0)∧w.cell? ⟨bb,12,none⟩=some (.int .i64 x.f1):=⟨World.rowIs.cell h.wb (i:=0) (by decide),World.rowIs.cell h.wb (i:=1) (by decide),World.rowIs.cell h.wb (i:=2) (by decide),World.rowIs.cell h.wb (i:=3) (by decide),World.rowIs.cell h.wb (i:=4) (by decide),World.rowIs.cell h.wb (i:=5) (by decide),World.rowIs.cell h.wb (i:=6) (by decide),World.rowIs.cell h.wb (i:=7) (by decide),World.rowIs.cell h.wb (i:=8) (by decide),World.rowIs.cell h.wb (i:=9) (by decide),World.rowIs.cell h.wb (i:=10) (by decide),World.rowIs.cell h.wb (i:=11) (by decide),World.rowIs.cell h.wb (i:=12) (by decide)⟩
theorem TurnAt.tab {w0 w:World} {lo tt bb:Nat} {lv le lf:Int} {V E F:Value} {vs:List VR} {es:List ER} {fs:List FR} {x:ER} (h:TurnAt w0 w lo tt bb lv le lf V E F vs es fs x):w.cell? ⟨tt,0,none⟩=some (.int .i64 lv)∧w.cell? ⟨tt,1,none⟩=some (.int .i64 le)∧w.cell? ⟨tt,2,none⟩=some (.int .i64 lf)∧w.cell? ⟨tt,3,none⟩=some V∧w.cell? ⟨tt,4,none⟩=some E∧w.cell? ⟨tt,5,none⟩=some F:=⟨World.rowIs.cell h.tb (i:=0) (by decide),World.rowIs.cell h.tb (i:=1) (by decide),World.rowIs.cell h.tb (i:=2) (by decide),World.rowIs.cell h.tb (i:=3) (by decide),World.rowIs.cell h.tb (i:=4) (by decide),World.rowIs.cell h.tb (i:=5) (by decide)⟩
theorem parts_few18 {p:PL} (r:RightP p) (h:p.es.length≤24):(parts18 p).length≤500:=by
 have hf:=r.rings_few
 have ho:(outersP p).length≤(ringsP p).length:=List.length_filter_le _ _
 have h1:(parts18 p).length=1+(outersP p).length:=by unfold parts18;rw[←rmV_done,rmV_len];omega
 omega
end Go.Proofs.Ythopjhifepijiaa
