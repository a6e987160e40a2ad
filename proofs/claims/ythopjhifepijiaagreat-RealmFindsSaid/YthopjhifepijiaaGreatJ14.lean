/- Lemmas on the way to the statement. -/
import Derived.Test.YthopjhifepijiaaGreatJ13
set_option linter.unusedSimpArgs false
set_option linter.unusedVariables false
namespace Go.Proofs.YthopjhifepijiaaGreat
open Go.RowKit Go.Joins
def outV (p:PL) (id:Int) (k:Nat):List Hf:=((halvesE p.es).take k).foldl (fun l x=>if fromH p.es x=id then insH (ltH p id) x l else l) []
theorem outV_succ {p:PL} {id:Int} {k:Nat} {x:Hf} (h:(halvesE p.es)[k]? =some x):outV p id (k+1)=if fromH p.es x=id then insH (ltH p id) x (outV p id k) else outV p id k:=by
 unfold outV
 rw[take_snoc' h,List.foldl_append]
 rfl
theorem outV_all (p:PL) (id:Int):outV p id (halvesE p.es).length=outR p id:=by
 unfold outV outR
 rw[List.take_length]
theorem insH_len (lt:Hf→Hf→Bool) (x:Hf) (l:List Hf):(insH lt x l).length=l.length+1:=by rw[(insH_perm lt x l).length_eq];rfl
theorem outV_in {p:PL} {id:Int}: ∀ {k:Nat},k≤(halvesE p.es).length→(∀y∈outV p id k,y∈halvesE p.es∧fromH p.es y=id)∧(outV p id k).length≤k
 |0,_=>⟨by simp[outV],by simp[outV]⟩
 |k+1,hk=>by
  obtain⟨h1,h2⟩:=outV_in (p:=p) (id:=id) (k:=k) (by omega)
  have hx:=List.getElem?_eq_getElem (l:=halvesE p.es) (i:=k) (by omega)
  rw[outV_succ hx]
  by_cases e:fromH p.es (halvesE p.es)[k]=id
  ·rw[if_pos e]
   refine⟨fun y hy=> ?_,by rw[insH_len];omega⟩
   rcases List.mem_cons.1 ((insH_perm _ _ _).mem_iff.1 hy) with rfl|hy
   ·exact⟨List.getElem_mem _,e⟩
   ·exact h1 y hy
  ·rw[if_neg e]
   exact⟨h1,by omega⟩
theorem ptZ_find (vs:List Vx) (id:Int):(findV vs id).at_=ptZ vs id:=findV_ptZ vs id
structure InS (w1 wi:World) (lt:Hf→Hf→Bool) (x:Hf) (L:List Hf) (j:Nat) (d:Bool) (l:List Hf) (v:Value):Prop where
 own:wi.ownsRow w1.heap.size 91 2 v l.length (hfC l)
 sum:l++(if d=true then L.drop j else insH lt x (L.drop j))=insH lt x L
 len:l.length≤j+(if d=true then 1 else 0)
 blw:Below w1.heap.size w1 wi
theorem InS.later {w1 wi w5:World} {lt:Hf→Hf→Bool} {x:Hf} {L:List Hf} {j:Nat} {d:Bool} {l:List Hf} {v:Value} (h:InS w1 wi lt x L j d l v) (k:Below wi.heap.size wi w5):InS w1 w5 lt x L j d l v:=
 ⟨ownsRow_touch h.own (Touch.of_below (F:=[]) k) (by simp),h.sum,h.len,below_step k h.blw⟩
theorem InS.add {w1 wi w5:World} {lt:Hf→Hf→Bool} {x y:Hf} {L:List Hf} {j j':Nat} {d d':Bool} {l:List Hf} {v v':Value} {q:Obj} (h:InS w1 wi lt x L j d l v) (hown:w5.ownsRow w1.heap.size 91 2 v' (l.length+1) (hfC l++[.int .i64 y.edge, .bool y.back])) (hgr:(wi.alloc q).grownBy w5 v.ownBlock)
  (hs:(if d=true then L.drop j else insH lt x (L.drop j))=y::(if d'=true then L.drop j' else insH lt x (L.drop j'))) (hl:l.length+1≤j'+(if d'=true then 1 else 0)):InS w1 w5 lt x L j' d' (l++[y]) v':=
 ⟨by rw[hfC_app,List.length_append];exact hown,by rw[List.append_assoc,List.singleton_append, ←hs];exact h.sum,by simpa using hl,
  (h.blw.alloc h.blw.size q).grown hgr (Nat.le_trans h.blw.size (below_alloc (o:=q) (Below.refl wi.heap.size wi)).size) (fun z hz=>(h.own.lt z hz).1)⟩
theorem hsIn_of_own {w:World} {base n c:Nat} {a:Option Addr} {t:TypeId} {L:List Hf} (h:w.ownsRow base t 2 (.slice a n c) n (hfC L)) (hn:n=L.length):HsIn w w.heap.size a n L:=by
 refine⟨hn, ?_⟩
 rcases Nat.eq_zero_or_pos n with h0|h0
 ·exact .inl h0
 ·obtain⟨g,cap,e⟩:=ownsRow_form h h0
  injection e with e1 e2 e3
  subst e1
  exact .inr ⟨g,0,rfl,(h.lt g rfl).2,own_hs h⟩
set_option maxRecDepth 100000 in
set_option maxHeartbeats 16000000 in
theorem r16out_any {w:World} {B vn vc en ec:Nat} {va ea:Option Addr} {p:PL} (r:RightP p) (hv:VsIn w B va vn p.vs) (he:EsIn w B ea en p.es) (hB:B≤w.heap.size) (id:Int) (hid:hasV p.vs id=true):
  Calls Tryz.prog 83 #[.agg #[.slice va vn vc, .slice ea en ec], .int .i64 id] w fun e w'=>(∃a n c,e= .returned (.slice a n c)∧n=(outP p id).length∧w'.ownsRow w.heap.size 91 2 (.slice a n c) n (hfC (outP p id)))∧Below w.heap.size w w':=by
 have hn:vn≤512:=by have:=r.nv;have:=hv.1;omega
 have hm:en≤1024:=by have:=r.ne;have:=he.1;omega
 have hlen:(halvesE p.es).length=2*en:=by rw[halves_len,he.1]
 have HHV:=fun(W:World) (hb:Below w.heap.size w W)=>Lib.hid (r16halves_any (w:=W) (ec:=ec) (he.below (hb.mono hB)) (Nat.le_trans hB hb.size) (by omega) (.slice va vn vc) ⟨_,_,_,rfl⟩)
 have HF:=fun(W:World) (hb:Below w.heap.size w W) (h:Hf) (hk:hasE p.es h.edge=true)=>Lib.hid (r16from_any (w:=W) (ec:=ec) (he.below (hb.mono hB)) (Nat.le_trans hB hb.size) (by omega) (.slice va vn vc) ⟨_,_,_,rfl⟩ h hk)
 have HAT:=fun(W:World) (hb:Below w.heap.size w W) (id:Int) (hk:hasV p.vs id=true)=>Lib.hid (r15at_any (w:=W) (vc:=vc) (hv.below (hb.mono hB)) (Nat.le_trans hB hb.size) (by omega) (.slice ea en ec) ⟨_,_,_,rfl⟩ id hk)
 obtain⟨M,hM⟩: ∃M,M=2*en:=⟨_,rfl⟩
 rw[←hM] at HHV hlen
 have hM2:M≤2048:=by omega
 have HLN:=Lib.hid hlen
 have HR:=Lib.hid r
 have HID:=Lib.hid hid
 obtain⟨i0,hi,hz0,hz1,hz2⟩:=info_parts Tryz.infoHf
 rw[←r.outR_eq]
 clear hv he r hid hlen hM
 go_enter Tryz.func83,Tryz.ntmps83
 go_wp2_with fail
 first|refine wp_name (fun W hW=> ?_)|refine calls_name (fun W hW=> ?_)
 have HW:Hid (Below w.heap.size w W):=Lib.hid (by rw[←hW];repeat (first|exact Below.refl _ _|refine below_alloc ?_))
 have HWs:Hid (W.heap.size=w.heap.size+1):=Lib.hid (by rw[←hW];simp)
 have HBW:Hid (W.heap.size≤W.heap.size):=Lib.hid (by have:=HWs.out;omega)
 have HC:=fun(W1:World) (hb:Below (W.heap.size) W W1)=>Lib.hid (show W1.cell? ⟨w.heap.size,0,none⟩=some (.slice va vn vc)∧W1.cell? ⟨w.heap.size,1,none⟩=some (.slice ea en ec) from by have hs:=HWs.out;refine⟨?_, ?_⟩<;>(refine(hb.cell (by dsimp only;omega)).trans ?_;rw[←hW];clear hW;go_simp))
 have HB:=Lib.hid (Below.refl (W.heap.size) W)
 clear hW
 have HZ:=fun(W1:World) (hb:W.heap.size≤W1.heap.size)=>Lib.hid (show w.heap.size<W1.heap.size from by have:=HWs.out;omega)
 obtain⟨qx0,qx1⟩:=(HC _ HB.out).out
 have rx0:=(HZ _ HB.out.size).out
 refine((HHV _ HW.out).out).mono ?_
 rintro e w1 ⟨⟨aa,ca,rfl,hall⟩,hb2⟩
 have HB:=bnx HB HBW hb2
 clear qx0 qx1 rx0
 obtain⟨qx0,qx1⟩:=(HC _ HB.out).out
 clear hb2
 have rx0:=(HZ _ HB.out.size).out
 have HAL:=Lib.hid hall
 clear hall
 go_wp2_with fail
 have HX1:=Lib.hid (HW.out.trans (HB.out.mono HW.out.size))
 have HSW:=Lib.hid (show W.heap.size≤w1.heap.size from HB.out.size)
 clear qx0 qx1 rx0
 go_loopw [5,7] (fun o v wr=> ∃(k:Nat) (ov:Value),k≤M∧v= .int .i64 k∧ov=o∧wr.ownsRow w1.heap.size 91 2 ov (outV p id k).length (hfC (outV p id k))∧Below w1.heap.size w1 wr) (fun _ v _=>M - (intOf v).toNat)
 case atStart=>exact⟨0,_,Nat.zero_le _,rfl,rfl,by simpa[outV,hfC] using World.ownsRow_nil _ _ _ _,Below.refl _ _⟩
 case round=>
  obtain⟨k,ov,hk,rfl,rfl,how,hb⟩:=hrel
  obtain⟨wq,rfl⟩: ∃x:World,x=wr:=⟨_,rfl⟩
  have HOW:=Lib.hid how
  have HB1:=Lib.hid hb
  have HB:=Lib.hid (HB.out.trans (hb.mono HB.out.size))
  have HX:=Lib.hid (HX1.out.trans (hb.mono HX1.out.size))
  clear how hb
  obtain⟨qx0,qx1⟩:=(HC _ HB.out).out
  have rx0:=(HZ _ HB.out.size).out
  by_cases hlt:k<M
  ·obtain⟨x,hx⟩: ∃x,(halvesE p.es)[k]? =some x:=⟨_,List.getElem?_eq_getElem (by have:=HLN.out;omega)⟩
   have HXK:=Lib.hid hx
   have hxm:=List.mem_of_getElem? hx
   have hok:=outV_in (p:=p) (id:=id) (k:=k) (by have:=HLN.out;omega)
   obtain⟨ab,aoff,rfl,hab,hcell⟩:=(hsIn_of_own HAL.out HLN.out.symm).row (by omega)
   have HCA:=fun(W1:World) (hb:Below w1.heap.size w1 W1)=>Lib.hid (hcell W1 hb k x hx)
   have HFX:=fun(W1:World) (hb:Below w.heap.size w W1)=>HF W1 hb x (mem_known hxm)
   clear hcell hx
   obtain⟨oa,oc,rfl⟩:=own_form HOW.out
   cases hfr:decide (fromH p.es x=id)
   ·have hz:(fromH p.es x==id)=false:=by simpa using of_decide_eq_false hfr
    have HN:=Lib.hid (show outV p id (k+1)=outV p id k from by rw[outV_succ HXK.out,if_neg (of_decide_eq_false hfr)])
    generalize fromH p.es x=fx at HFX hz
    clear hfr hxm hok
    go_wp2_with fail
    refine wp_name (fun c4 hc4=> ?_)
    have HB:=bnm HB HBW hc4
    have HBC:=Lib.hid (hc4▸HB1.out);have HOC:=Lib.hid (hc4▸HOW.out);have HXC:=Lib.hid (hc4▸HX.out);have HFXL:=fun(x0:Later c4)=>HFX x0.1 (below_step x0.2 HXC.out);have y9:=fun(x0:Later c4)=>(HCA x0.1 (below_step x0.2 HBC.out)).out
    clear hc4
    have xx:=fun(x:Later c4)=>(HC _ (bnl HB HBW x.2)).out
    simp only[forall_and] at xx
    obtain⟨xx0,xx1⟩:=xx
    refine wp_region_later (by kernel_rfl) (by kernel_rfl) ?_
    repeat (first|go_big_quiet_step (((go_at_call 33;with_reducible refine Later.call (HFXL _).out)))|quiet_step (((go_at_call 33;with_reducible refine Later.call (HFXL _).out))))
    refine wpQuiet_nil ?_
    intro ws hw4
    have hb4:=later_below hw4
    clear hw4
    have HB:=Lib.hid (bnl HB HBW hb4)
    clear xx0 xx1
    clear qx0 qx1 rx0
    obtain⟨qx0,qx1⟩:=(HC _ HB.out).out
    have HX:=Lib.hid (below_step hb4 HXC.out);have HB1:=Lib.hid (below_step hb4 HBC.out);have HOW:=Lib.hid (ownsRow_touch HOC.out (Touch.of_below (F:=[]) hb4) (by simp))
    clear hb4
    have rx0:=(HZ _ HB.out.size).out
    go_wp2_with fail
    go_roundw
    case rel=>exact⟨k+1,_,by omega,by go_num,rfl,by rw[HN.out];exact HOW.out,HB1.out⟩
    case measure=>simp[intOf];omega
   ·have hfe:fromH p.es x=id:=of_decide_eq_true hfr
    have hz:(fromH p.es x==id)=true:=by simpa using hfe
    have HN:=Lib.hid (show outV p id (k+1)=insH (ltH p id) x (outV p id k) from by rw[outV_succ HXK.out,if_pos hfe])
    have hpx:=HR.out.half_pts hxm
    have hix:=HR.out.halfIn (mem_known hxm)
    obtain⟨L,hL⟩: ∃L,L=outV p id k:=⟨_,rfl⟩
    rw[←hL] at HN HOW hok ⊢
    have HLK:=Lib.hid (show L.length≤k from hok.2)
    have HLM:=Lib.hid hok.1
    generalize hfx:fromH p.es x=fx at HFX hz
    clear hfr hok hL hfx
    have HFT:=fun(W1:World) (hb:Below w.heap.size w W1)=>HF W1 hb (twinH x) hix.e
    have HAX:=fun(W1:World) (hb:Below w.heap.size w W1)=>HAT W1 hb (fromH p.es (twinH x)) hix.to
    have HAO:=fun(W1:World) (hb:Below w.heap.size w W1)=>HAT W1 hb id HID.out
    have HTX:=fun W=>Lib.hid (r16twin_any x W)
    rw[ptZ_find] at HAX HAO
    rw[show ptZ p.vs (fromH p.es (twinH x))=ptH p (twinH x) from rfl] at HAX
    have HPX:=Lib.hid (show inB (ptZ p.vs id)=true∧inB (ptH p (twinH x))=true∧ptH p (twinH x)≠ptZ p.vs id from by
     have e:ptZ p.vs id=ptH p x:=by unfold ptH;rw[hfe]
     rw[e]
     exact⟨hpx.1,hpx.2.1,hpx.2.2.2.2⟩)
    clear hpx hix hfe hxm
    go_wp2_with fail
    refine wp_name (fun c5 hc5=> ?_)
    have HB:=bnm HB HBW hc5
    have HBC:=Lib.hid (hc5▸HB1.out);have HOC:=Lib.hid (hc5▸HOW.out);have HXC:=Lib.hid (hc5▸HX.out);have HFXL:=fun(x0:Later c5)=>HFX x0.1 (below_step x0.2 HXC.out);have y9:=fun(x0:Later c5)=>(HCA x0.1 (below_step x0.2 HBC.out)).out
    clear hc5
    have xx:=fun(x:Later c5)=>(HC _ (bnl HB HBW x.2)).out
    simp only[forall_and] at xx
    obtain⟨xx0,xx1⟩:=xx
    refine wp_region_later (by kernel_rfl) (by kernel_rfl) ?_
    repeat (first|go_big_quiet_step (((go_at_call 33;with_reducible refine Later.call (HFXL _).out)))|quiet_step (((go_at_call 33;with_reducible refine Later.call (HFXL _).out))))
    refine wpQuiet_nil ?_
    intro ws hw5
    have hb5:=later_below hw5
    clear hw5
    have HB:=Lib.hid (bnl HB HBW hb5)
    clear xx0 xx1
    clear qx0 qx1 rx0
    obtain⟨qx0,qx1⟩:=(HC _ HB.out).out
    have HX:=Lib.hid (below_step hb5 HXC.out);have HB1:=Lib.hid (below_step hb5 HBC.out);have HOW:=Lib.hid (ownsRow_touch HOC.out (Touch.of_below (F:=[]) hb5) (by simp))
    clear hb5
    have rx0:=(HZ _ HB.out.size).out
    go_wp2_with fail
    clear qx0 qx1 rx0
    have HBS:=HB1
    have hz2:(fx != id)=false:=by rw[bne,hz];rfl
    rw[hz2]
    clear HFX hz hz2
    go_loopw [8,9,10] (fun lv0 dn jv wi=> ∃(i:Nat) (d:Bool) (lv:Value) (l:List Hf),i≤L.length∧jv= .int .i64 i∧lv=lv0∧dn= .bool d∧InS ws wi (ltH p id) x L i d l lv) (fun _ _ jv _=>L.length - (intOf jv).toNat)
    case atStart=>exact⟨0,false,_,[],Nat.zero_le _,rfl,rfl,rfl,by simpa[hfC] using World.ownsRow_nil _ _ _ _,by simp,by simp,Below.refl _ _⟩
    case round=>
     obtain⟨i,d,lv,l,hil,rfl,rfl,rfl,hI⟩:=hrel
     have HI:=Lib.hid hI
     have HB:=Lib.hid (HB.out.trans (hI.blw.mono HB.out.size))
     have HX:=Lib.hid (HX.out.trans (hI.blw.mono HX.out.size))
     have HB1:=Lib.hid (HB1.out.trans (hI.blw.mono HB1.out.size))
     clear hI
     obtain⟨qx0,qx1⟩:=(HC _ HB.out).out
     have rx0:=(HZ _ HB.out.size).out
     have hlk:=HLK.out
     by_cases hij:i<L.length
     ·obtain⟨y,hy⟩: ∃y,L[i]? =some y:=⟨_,List.getElem?_eq_getElem hij⟩
      have HYK:=Lib.hid hy
      have hym:=HLM.out y (List.mem_of_getElem? hy)
      obtain⟨ob,ooff,rfl,hob,hcell⟩:=(hsIn_of_own HOW.out rfl).row (by omega)
      have HCY:=fun(W1:World) (hb:Below ws.heap.size ws W1)=>Lib.hid (hcell W1 hb i y hy)
      have HDR:=Lib.hid (show L.drop i=y::L.drop (i+1) from by
       have h2:=(List.getElem?_eq_some_iff.1 hy)
       rw[List.drop_eq_getElem_cons h2.1,h2.2])
      have hiy:=HR.out.halfIn (mem_known hym.1)
      have hpy:=HR.out.half_pts hym.1
      have HFY:=fun(W1:World) (hb:Below w.heap.size w W1)=>HF W1 hb (twinH y) hiy.e
      have HAY:=fun(W1:World) (hb:Below w.heap.size w W1)=>HAT W1 hb (fromH p.es (twinH y)) hiy.to
      have HTY:=fun W=>Lib.hid (r16twin_any y W)
      rw[ptZ_find,show ptZ p.vs (fromH p.es (twinH y))=ptH p (twinH y) from rfl] at HAY
      have hpe:ptZ p.vs id=ptH p y:=by unfold ptH;rw[hym.2]
      have HAR:=fun W=>Lib.hid (r5around_any (ptZ p.vs id) (ptH p (twinH x)) (ptH p (twinH y)) W HPX.out.1 HPX.out.2.1 hpy.2.1)
      have HLT:=Lib.hid (show ltH p id x y=decide (arndR (ptZ p.vs id) (ptH p (twinH x)) (ptH p (twinH y))<0) from decide_eq_decide.2 (arndR_neg HPX.out.2.2 (by rw[hpe];exact hpy.2.2.2.2)).symm)
      clear hcell hy hym hiy hpy hpe
      generalize arndR (ptZ p.vs id) (ptH p (twinH x)) (ptH p (twinH y))=z at HAR HLT
      generalize ptZ p.vs id=O at HAO HAR
      generalize ptH p (twinH x)=PX at HAX HAR
      generalize ptH p (twinH y)=PY at HAY HAR
      generalize fromH p.es (twinH x)=tx at HFT HAX
      generalize fromH p.es (twinH y)=ty at HFY HAY
      cases d
      ·by_cases hz:z<0
       ·have HS2:=Lib.hid (show insH (ltH p id) x (L.drop i)=x::L.drop i from by rw[HDR.out];show(if ltH p id x y=true then _ else _)=_;rw[HLT.out,decide_eq_true hz,if_pos rfl])
        go_wp2_with fail
        refine wp_name (fun c7 hc7=> ?_)
        have HB:=bnm HB HBW hc7
        have HIC:=Lib.hid (hc7▸HI.out);have HXC:=Lib.hid (hc7▸HX.out);have HBC:=Lib.hid (hc7▸HB1.out);have HAOL:=fun(x0:Later c7)=>HAO x0.1 (below_step x0.2 HXC.out);have HAXL:=fun(x0:Later c7)=>HAX x0.1 (below_step x0.2 HXC.out);have HAYL:=fun(x0:Later c7)=>HAY x0.1 (below_step x0.2 HXC.out);have HFTL:=fun(x0:Later c7)=>HFT x0.1 (below_step x0.2 HXC.out);have HFYL:=fun(x0:Later c7)=>HFY x0.1 (below_step x0.2 HXC.out);have y8:=fun(x0:Later c7)=>(HCA x0.1 (below_step x0.2 HBC.out)).out;have y9:=fun(x0:Later c7)=>(HCY x0.1 (below_step x0.2 HIC.out.blw)).out
        clear hc7
        have xx:=fun(x:Later c7)=>(HC _ (bnl HB HBW x.2)).out
        simp only[forall_and] at xx
        obtain⟨xx0,xx1⟩:=xx
        refine wp_region_later (by kernel_rfl) (by kernel_rfl) ?_
        repeat (first|go_big_quiet_step (((first|(go_at_call 26;with_reducible refine Later.call (HAOL _).out)|(go_at_call 26;with_reducible refine Later.call (HAXL _).out)|(go_at_call 26;with_reducible refine Later.call (HAYL _).out)|(go_at_call 33;with_reducible refine Later.call (HFTL _).out)|(go_at_call 33;with_reducible refine Later.call (HFYL _).out)|(go_at_call 84;with_reducible refine Later.call (HTX _).out)|(go_at_call 84;with_reducible refine Later.call (HTY _).out)|(go_at_call 101;with_reducible refine Later.call (HAR _).out))))|quiet_step (((first|(go_at_call 26;with_reducible refine Later.call (HAOL _).out)|(go_at_call 26;with_reducible refine Later.call (HAXL _).out)|(go_at_call 26;with_reducible refine Later.call (HAYL _).out)|(go_at_call 33;with_reducible refine Later.call (HFTL _).out)|(go_at_call 33;with_reducible refine Later.call (HFYL _).out)|(go_at_call 84;with_reducible refine Later.call (HTX _).out)|(go_at_call 84;with_reducible refine Later.call (HTY _).out)|(go_at_call 101;with_reducible refine Later.call (HAR _).out)))))
        refine wpQuiet_nil ?_
        intro wt hw7
        have hb7:=later_below hw7
        clear hw7
        have HB:=Lib.hid (bnl HB HBW hb7)
        clear xx0 xx1
        clear qx0 qx1 rx0
        obtain⟨qx0,qx1⟩:=(HC _ HB.out).out
        have HI:=Lib.hid (HIC.out.later hb7);have HX:=Lib.hid (below_step hb7 HXC.out);have HB1:=Lib.hid (below_step hb7 HBC.out);obtain⟨c8,c9⟩:=(HCA _ HB1.out).out;obtain⟨d8,d9⟩:=(HCY _ HI.out.blw).out
        clear hb7
        have rx0:=(HZ _ HB.out.size).out
        go_wp2_with (first|(at_builtin;go_loud (refine wpList_append_near _ rfl (.tmp 60) (.tmp 65) 33 rfl ws.heap.size 91 i0 (.agg #[.int .i64 0, .bool false]) 2 16 Tryz.underlying33 hi hz0 hz1 hz2 rfl (by decide) lv _ _ rfl (HI.out.own.alloc _) ⟨wt.heap.size,0,none⟩ 1 1 [.int .i64 x.edge, .bool x.back] rfl (by decide) rfl (cell_list_at _ [.int .i64 x.edge, .bool x.back] _ rfl) (by intro u hu;simp at hu;rcases hu with rfl|rfl<;>rfl) (by have h9:=HI.out.len;(try simp only[List.length_append,List.length_singleton,if_true,Bool.false_eq_true,if_false] at h9);(try simp only[List.length_append,List.length_singleton,if_true,Bool.false_eq_true,if_false]);unfold maxLen;omega) (by have h9:=HI.out.len;(try simp only[List.length_append,List.length_singleton,if_true,Bool.false_eq_true,if_false] at h9);(try simp only[List.length_append,List.length_singleton,if_true,Bool.false_eq_true,if_false]);omega) (by have:=HI.out.blw.size;simp;omega) ?_;intro g6 capg6 w6 hown hgr hat;have Hw6:=Lib.hid (HI.out.add (y:=x) (d':=true) (j':=i) hown hgr (by simpa using HS2.out) (by have h9:=HI.out.len;(try simp only[List.length_append,List.length_singleton,if_true,Bool.false_eq_true,if_false] at h9);(try simp only[List.length_append,List.length_singleton,if_true,Bool.false_eq_true,if_false]);omega));clear hown hgr hat;obtain⟨d8,d9⟩:=(HCY _ Hw6.out.blw).out))|(at_builtin;go_loud (refine wpList_append_near _ rfl (.tmp 67) (.tmp 72) 33 rfl ws.heap.size 91 i0 (.agg #[.int .i64 0, .bool false]) 2 16 Tryz.underlying33 hi hz0 hz1 hz2 rfl (by decide) (.slice (some ⟨g6,0,none⟩) (l.length+1) capg6) _ _ rfl (Hw6.out.own.alloc _) ⟨w6.heap.size,0,none⟩ 1 1 [.int .i64 y.edge, .bool y.back] rfl (by decide) rfl (cell_list_at _ [.int .i64 y.edge, .bool y.back] _ rfl) (by intro u hu;simp at hu;rcases hu with rfl|rfl<;>rfl) (by have h9:=Hw6.out.len;(try simp only[List.length_append,List.length_singleton,if_true,Bool.false_eq_true,if_false] at h9);(try simp only[List.length_append,List.length_singleton,if_true,Bool.false_eq_true,if_false]);unfold maxLen;omega) (by have h9:=Hw6.out.len;(try simp only[List.length_append,List.length_singleton,if_true,Bool.false_eq_true,if_false] at h9);(try simp only[List.length_append,List.length_singleton,if_true,Bool.false_eq_true,if_false]);omega) (by have:=Hw6.out.blw.size;simp;omega) ?_;intro g7 capg7 w7 hown hgr hat;have Hw7:=Lib.hid (Hw6.out.add (y:=y) (d':=true) (j':=(i+1)) hown hgr (by simpa using HDR.out) (by have h9:=Hw6.out.len;(try simp only[List.length_append,List.length_singleton,if_true,Bool.false_eq_true,if_false] at h9);(try simp only[List.length_append,List.length_singleton,if_true,Bool.false_eq_true,if_false]);omega));clear hown hgr hat)))
        go_roundw
        case rel=>
         have h:=Hw7.out
         rw[List.length_append] at h
         exact⟨i+1,true,_,_,by omega,by go_num,rfl,rfl,h⟩
        case measure=>simp[intOf];omega
       ·have HS2:=Lib.hid (show insH (ltH p id) x (L.drop i)=y::insH (ltH p id) x (L.drop (i+1)) from by rw[HDR.out];show(if ltH p id x y=true then _ else _)=_;rw[HLT.out,decide_eq_false hz,if_neg (by decide)])
        go_wp2_with fail
        refine wp_name (fun c8 hc8=> ?_)
        have HB:=bnm HB HBW hc8
        have HIC:=Lib.hid (hc8▸HI.out);have HXC:=Lib.hid (hc8▸HX.out);have HBC:=Lib.hid (hc8▸HB1.out);have HAOL:=fun(x0:Later c8)=>HAO x0.1 (below_step x0.2 HXC.out);have HAXL:=fun(x0:Later c8)=>HAX x0.1 (below_step x0.2 HXC.out);have HAYL:=fun(x0:Later c8)=>HAY x0.1 (below_step x0.2 HXC.out);have HFTL:=fun(x0:Later c8)=>HFT x0.1 (below_step x0.2 HXC.out);have HFYL:=fun(x0:Later c8)=>HFY x0.1 (below_step x0.2 HXC.out);have y8:=fun(x0:Later c8)=>(HCA x0.1 (below_step x0.2 HBC.out)).out;have y9:=fun(x0:Later c8)=>(HCY x0.1 (below_step x0.2 HIC.out.blw)).out
        clear hc8
        have xx:=fun(x:Later c8)=>(HC _ (bnl HB HBW x.2)).out
        simp only[forall_and] at xx
        obtain⟨xx0,xx1⟩:=xx
        refine wp_region_later (by kernel_rfl) (by kernel_rfl) ?_
        repeat (first|go_big_quiet_step (((first|(go_at_call 26;with_reducible refine Later.call (HAOL _).out)|(go_at_call 26;with_reducible refine Later.call (HAXL _).out)|(go_at_call 26;with_reducible refine Later.call (HAYL _).out)|(go_at_call 33;with_reducible refine Later.call (HFTL _).out)|(go_at_call 33;with_reducible refine Later.call (HFYL _).out)|(go_at_call 84;with_reducible refine Later.call (HTX _).out)|(go_at_call 84;with_reducible refine Later.call (HTY _).out)|(go_at_call 101;with_reducible refine Later.call (HAR _).out))))|quiet_step (((first|(go_at_call 26;with_reducible refine Later.call (HAOL _).out)|(go_at_call 26;with_reducible refine Later.call (HAXL _).out)|(go_at_call 26;with_reducible refine Later.call (HAYL _).out)|(go_at_call 33;with_reducible refine Later.call (HFTL _).out)|(go_at_call 33;with_reducible refine Later.call (HFYL _).out)|(go_at_call 84;with_reducible refine Later.call (HTX _).out)|(go_at_call 84;with_reducible refine Later.call (HTY _).out)|(go_at_call 101;with_reducible refine Later.call (HAR _).out)))))
        refine wpQuiet_nil ?_
        intro wt hw8
        have hb8:=later_below hw8
        clear hw8
        have HB:=Lib.hid (bnl HB HBW hb8)
        clear xx0 xx1
        clear qx0 qx1 rx0
        obtain⟨qx0,qx1⟩:=(HC _ HB.out).out
        have HI:=Lib.hid (HIC.out.later hb8);have HX:=Lib.hid (below_step hb8 HXC.out);have HB1:=Lib.hid (below_step hb8 HBC.out);obtain⟨c8,c9⟩:=(HCA _ HB1.out).out;obtain⟨d8,d9⟩:=(HCY _ HI.out.blw).out
        clear hb8
        have rx0:=(HZ _ HB.out.size).out
        go_wp2_with (at_builtin;go_loud (refine wpList_append_near _ rfl (.tmp 67) (.tmp 72) 33 rfl ws.heap.size 91 i0 (.agg #[.int .i64 0, .bool false]) 2 16 Tryz.underlying33 hi hz0 hz1 hz2 rfl (by decide) lv _ _ rfl (HI.out.own.alloc _) ⟨wt.heap.size,0,none⟩ 1 1 [.int .i64 y.edge, .bool y.back] rfl (by decide) rfl (cell_list_at _ [.int .i64 y.edge, .bool y.back] _ rfl) (by intro u hu;simp at hu;rcases hu with rfl|rfl<;>rfl) (by have h9:=HI.out.len;(try simp only[List.length_append,List.length_singleton,if_true,Bool.false_eq_true,if_false] at h9);(try simp only[List.length_append,List.length_singleton,if_true,Bool.false_eq_true,if_false]);unfold maxLen;omega) (by have h9:=HI.out.len;(try simp only[List.length_append,List.length_singleton,if_true,Bool.false_eq_true,if_false] at h9);(try simp only[List.length_append,List.length_singleton,if_true,Bool.false_eq_true,if_false]);omega) (by have:=HI.out.blw.size;simp;omega) ?_;intro g6 capg6 w6 hown hgr hat;have Hw6:=Lib.hid (HI.out.add (y:=y) (d':=false) (j':=(i+1)) hown hgr (by simpa using HS2.out) (by have h9:=HI.out.len;(try simp only[List.length_append,List.length_singleton,if_true,Bool.false_eq_true,if_false] at h9);(try simp only[List.length_append,List.length_singleton,if_true,Bool.false_eq_true,if_false]);omega));clear hown hgr hat))
        go_roundw
        case rel=>exact⟨i+1,false,_,_,by omega,by go_num,rfl,rfl,Hw6.out⟩
        case measure=>simp[intOf];omega
      ·go_wp2_with fail
       refine wp_name (fun c9 hc9=> ?_)
       have HB:=bnm HB HBW hc9
       have HIC:=Lib.hid (hc9▸HI.out);have HXC:=Lib.hid (hc9▸HX.out);have HBC:=Lib.hid (hc9▸HB1.out);have HAOL:=fun(x0:Later c9)=>HAO x0.1 (below_step x0.2 HXC.out);have HAXL:=fun(x0:Later c9)=>HAX x0.1 (below_step x0.2 HXC.out);have HAYL:=fun(x0:Later c9)=>HAY x0.1 (below_step x0.2 HXC.out);have HFTL:=fun(x0:Later c9)=>HFT x0.1 (below_step x0.2 HXC.out);have HFYL:=fun(x0:Later c9)=>HFY x0.1 (below_step x0.2 HXC.out);have y8:=fun(x0:Later c9)=>(HCA x0.1 (below_step x0.2 HBC.out)).out;have y9:=fun(x0:Later c9)=>(HCY x0.1 (below_step x0.2 HIC.out.blw)).out
       clear hc9
       have xx:=fun(x:Later c9)=>(HC _ (bnl HB HBW x.2)).out
       simp only[forall_and] at xx
       obtain⟨xx0,xx1⟩:=xx
       refine wp_region_later (by kernel_rfl) (by kernel_rfl) ?_
       repeat (first|go_big_quiet_step (((first|(go_at_call 26;with_reducible refine Later.call (HAOL _).out)|(go_at_call 26;with_reducible refine Later.call (HAXL _).out)|(go_at_call 26;with_reducible refine Later.call (HAYL _).out)|(go_at_call 33;with_reducible refine Later.call (HFTL _).out)|(go_at_call 33;with_reducible refine Later.call (HFYL _).out)|(go_at_call 84;with_reducible refine Later.call (HTX _).out)|(go_at_call 84;with_reducible refine Later.call (HTY _).out)|(go_at_call 101;with_reducible refine Later.call (HAR _).out))))|quiet_step (((first|(go_at_call 26;with_reducible refine Later.call (HAOL _).out)|(go_at_call 26;with_reducible refine Later.call (HAXL _).out)|(go_at_call 26;with_reducible refine Later.call (HAYL _).out)|(go_at_call 33;with_reducible refine Later.call (HFTL _).out)|(go_at_call 33;with_reducible refine Later.call (HFYL _).out)|(go_at_call 84;with_reducible refine Later.call (HTX _).out)|(go_at_call 84;with_reducible refine Later.call (HTY _).out)|(go_at_call 101;with_reducible refine Later.call (HAR _).out)))))
       refine wpQuiet_nil ?_
       intro wt hw9
       have hb9:=later_below hw9
       clear hw9
       have HB:=Lib.hid (bnl HB HBW hb9)
       clear xx0 xx1
       clear qx0 qx1 rx0
       obtain⟨qx0,qx1⟩:=(HC _ HB.out).out
       have HI:=Lib.hid (HIC.out.later hb9);have HX:=Lib.hid (below_step hb9 HXC.out);have HB1:=Lib.hid (below_step hb9 HBC.out);obtain⟨c8,c9⟩:=(HCA _ HB1.out).out;obtain⟨d8,d9⟩:=(HCY _ HI.out.blw).out
       clear hb9
       have rx0:=(HZ _ HB.out.size).out
       go_wp2_with (at_builtin;go_loud (refine wpList_append_near _ rfl (.tmp 67) (.tmp 72) 33 rfl ws.heap.size 91 i0 (.agg #[.int .i64 0, .bool false]) 2 16 Tryz.underlying33 hi hz0 hz1 hz2 rfl (by decide) lv _ _ rfl (HI.out.own.alloc _) ⟨wt.heap.size,0,none⟩ 1 1 [.int .i64 y.edge, .bool y.back] rfl (by decide) rfl (cell_list_at _ [.int .i64 y.edge, .bool y.back] _ rfl) (by intro u hu;simp at hu;rcases hu with rfl|rfl<;>rfl) (by have h9:=HI.out.len;(try simp only[List.length_append,List.length_singleton,if_true,Bool.false_eq_true,if_false] at h9);(try simp only[List.length_append,List.length_singleton,if_true,Bool.false_eq_true,if_false]);unfold maxLen;omega) (by have h9:=HI.out.len;(try simp only[List.length_append,List.length_singleton,if_true,Bool.false_eq_true,if_false] at h9);(try simp only[List.length_append,List.length_singleton,if_true,Bool.false_eq_true,if_false]);omega) (by have:=HI.out.blw.size;simp;omega) ?_;intro g6 capg6 w6 hown hgr hat;have Hw6:=Lib.hid (HI.out.add (y:=y) (d':=true) (j':=(i+1)) hown hgr (by simpa using HDR.out) (by have h9:=HI.out.len;(try simp only[List.length_append,List.length_singleton,if_true,Bool.false_eq_true,if_false] at h9);(try simp only[List.length_append,List.length_singleton,if_true,Bool.false_eq_true,if_false]);omega));clear hown hgr hat))
       go_roundw
       case rel=>exact⟨i+1,true,_,_,by omega,by go_num,rfl,rfl,Hw6.out⟩
       case measure=>simp[intOf];omega
     ·have hdr:L.drop i=[]:=List.drop_of_length_le (by omega)
      cases d
      ·have HDE:=Lib.hid hdr
       clear hdr
       obtain⟨c8,c9⟩:=(HCA _ HB1.out).out
       go_wp2_with (at_builtin;go_loud (refine wpList_append_near _ rfl (.tmp 76) (.tmp 81) 33 rfl ws.heap.size 91 i0 (.agg #[.int .i64 0, .bool false]) 2 16 Tryz.underlying33 hi hz0 hz1 hz2 rfl (by decide) lv _ _ rfl (HI.out.own.alloc _) ⟨wr.heap.size,0,none⟩ 1 1 [.int .i64 x.edge, .bool x.back] rfl (by decide) rfl (cell_list_at _ [.int .i64 x.edge, .bool x.back] _ rfl) (by intro u hu;simp at hu;rcases hu with rfl|rfl<;>rfl) (by have h9:=HI.out.len;(try simp only[List.length_append,List.length_singleton,if_true,Bool.false_eq_true,if_false] at h9);(try simp only[List.length_append,List.length_singleton,if_true,Bool.false_eq_true,if_false]);unfold maxLen;omega) (by have h9:=HI.out.len;(try simp only[List.length_append,List.length_singleton,if_true,Bool.false_eq_true,if_false] at h9);(try simp only[List.length_append,List.length_singleton,if_true,Bool.false_eq_true,if_false]);omega) (by have:=HI.out.blw.size;simp;omega) ?_;intro g6 capg6 w6 hown hgr hat;have Hw6:=Lib.hid (HI.out.add (y:=x) (d':=true) (j':=i) hown hgr (by simp[HDE.out,insH]) (by have h9:=HI.out.len;(try simp only[List.length_append,List.length_singleton,if_true,Bool.false_eq_true,if_false] at h9);(try simp only[List.length_append,List.length_singleton,if_true,Bool.false_eq_true,if_false]);omega));clear hown hgr hat))
       go_roundw
       case rel=>
        have hs:=Hw6.out.sum
        simp only[if_true,HDE.out,List.append_nil] at hs
        refine⟨k+1,_,by omega,by go_num,rfl, ?_,below_step Hw6.out.blw HBS.out⟩
        rw[HN.out, ←hs]
        exact ownsRow_le Hw6.out.own HBS.out.size
       case measure=>simp[intOf];omega
      ·have hs:=HI.out.sum
       simp only[if_true,hdr,List.append_nil] at hs
       have HSS:=Lib.hid hs
       clear hs hdr
       obtain⟨la,lc,rfl⟩:=own_form HI.out.own
       go_wp2_with fail
       go_roundw
       case rel=>
        refine⟨k+1,_,by omega,by go_num,rfl, ?_,below_step HI.out.blw HBS.out⟩
        rw[HN.out, ←HSS.out]
        exact ownsRow_le HI.out.own HBS.out.size
       case measure=>simp[intOf];omega
  ·obtain rfl:M=k:=by omega
   obtain⟨oa,oc,rfl⟩:=own_form HOW.out
   have hT:outV p id (M)=outR p id:=by rw[←HLN.out,outV_all]
   have h1:=HOW.out
   rw[hT] at h1
   have HT:=Lib.hid h1
   have HTL:=Lib.hid (congrArg List.length hT)
   clear h1 hT
   generalize (outV p id (M)).length=m at HT HTL
   go_wp2_with fail
   go_ret
   exact⟨⟨oa,m,oc,rfl,HTL.out,by rw[HTL.out];exact ownsRow_le HT.out HX1.out.size⟩,HX.out⟩
end Go.Proofs.YthopjhifepijiaaGreat
namespace Go.Proofs.YthopjhifepijiaaGreat
open Go.RowKit Go.Joins
def hfF (h:Hf):Nat→Value
 |0=> .int .i64 h.edge
 |_=> .bool h.back
theorem res_hf {fn:Func} {p:Tmp} {tmps:Array Value} {W:World} {g:Nat} {q:Hf} (h:fn.results= #[.cell p 91]) (hp:tmps.getD p undef= .pointer (some ⟨g,0,none⟩)) (hr:W.rowIs g 91 2 (hfF q)):
  (results fn tmps).run Tryz.prog W= .ok (.agg #[.int .i64 q.edge, .bool q.back]) W:=by
 obtain⟨c,hc,hs,hi⟩:=hr
 have hcs:c= #[.int .i64 q.edge, .bool q.back]:=by
  apply Array.ext_getElem?
  intro i
  by_cases hlt:i<2
  ·rw[hi i hlt]
   rcases i with _|_|i<;>first|rfl|(exfalso;omega)
  ·rw[Array.getElem?_eq_none (by omega),Array.getElem?_eq_none (by simp;omega)]
 subst hcs
 exact results_cell_row h tmps W g _ _ _ _ hp hc Tryz.underlying91 rfl (by kernel_rfl)
theorem Tryz.results44:Tryz.f44.results= #[.cell 4 91]:=by kernel_rfl
theorem idxOf_at {l:List Hf} {k:Nat} {x:Hf} (h:l[k]? =some x) (hno: ∀y∈l.take k,y≠x):l.idxOf x=k:=by
 unfold List.idxOf
 refine idx_hit (x:=x) (fun y hy=>by simpa using hno y hy) h (by simp)
theorem nextP_at {p:PL} {h:Hf} {k:Nat} (hk:(outP p (toH p.es h))[k]? =some (twinH h)) (hno: ∀y∈(outP p (toH p.es h)).take k,y≠twinH h):
  (k=0→(outP p (toH p.es h))[(outP p (toH p.es h)).length - 1]? =some (nextP p h))∧(∀m,k=m+1→(outP p (toH p.es h))[m]? =some (nextP p h)):=by
 have hlt:=(List.getElem?_eq_some_iff.1 hk).1
 unfold nextP
 rw[idxOf_at hk hno,List.getD_eq_getElem?_getD]
 refine⟨fun e=> ?_,fun m e=> ?_⟩
 ·subst e
  rw[show(0+(outP p (toH p.es h)).length - 1) % (outP p (toH p.es h)).length=(outP p (toH p.es h)).length - 1 from by rw[Nat.zero_add];exact Nat.mod_eq_of_lt (by omega)]
  rw[List.getElem?_eq_getElem (by omega)]
  rfl
 ·subst e
  rw[show(m+1+(outP p (toH p.es h)).length - 1) % (outP p (toH p.es h)).length=m from by rw[show m+1+(outP p (toH p.es h)).length - 1=m+(outP p (toH p.es h)).length by omega,Nat.add_mod_right];exact Nat.mod_eq_of_lt (by omega)]
  rw[List.getElem?_eq_getElem (by omega)]
  rfl
set_option maxRecDepth 100000 in
set_option maxHeartbeats 8000000 in
theorem r16next_any {w:World} {B vn vc en ec:Nat} {va ea:Option Addr} {p:PL} (r:RightP p) (hv:VsIn w B va vn p.vs) (he:EsIn w B ea en p.es) (hB:B≤w.heap.size) (h:Hf) (hm:h∈halvesE p.es):
  Calls Tryz.prog 44 #[.agg #[.slice va vn vc, .slice ea en ec], .agg #[.int .i64 h.edge, .bool h.back]] w fun e w'=>e= .returned (.agg #[.int .i64 (nextP p h).edge, .bool (nextP p h).back])∧Below w.heap.size w w':=by
 have hn:en≤1024:=by have:=r.ne;have:=he.1;omega
 have hk:=mem_known hm
 have HTW:=fun W=>Lib.hid (r16twin_any h W)
 have HF:=fun(W:World) (hb:Below w.heap.size w W)=>Lib.hid (r16from_any (w:=W) (ec:=ec) (he.below (hb.mono hB)) (Nat.le_trans hB hb.size) (by omega) (.slice va vn vc) ⟨_,_,_,rfl⟩ (twinH h) hk)
 have HO:=fun(W:World) (hb:Below w.heap.size w W)=>Lib.hid (r16out_any (w:=W) (vc:=vc) (ec:=ec) r (hv.below (hb.mono hB)) (he.below (hb.mono hB)) (Nat.le_trans hB hb.size) (fromH p.es (twinH h)) (r.halfIn hk).to)
 have hlen:(outP p (toH p.es h)).length≤2048:=by
  rw[out_len]
  have:=leav_len p.es (toH p.es h)
  have:=r.ne
  omega
 have hmem:twinH h∈outP p (toH p.es h):=mem_out.2 ⟨twin_mem hm,rfl⟩
 have HAT:=fun(k:Nat)=> @nextP_at p h k
 obtain⟨N,hN⟩: ∃N,N=nextP p h:=⟨_,rfl⟩
 rw[←hN]
 rw[←hN] at HAT
 rw[show fromH p.es (twinH h)=toH p.es h from rfl] at HF HO
 generalize outP p (toH p.es h)=L at*
 generalize toH p.es h=t at*
 generalize twinH h=T at*
 have HMM:=Lib.hid hmem
 have HLL:=Lib.hid hlen
 obtain⟨hh,hbk⟩:=h
 obtain⟨te,tb⟩:=T
 simp only at*
 clear hv he hm hk hN r hmem
 go_enter Tryz.func44,Tryz.ntmps44
 go_wp2_with fail
 first|refine wp_name (fun W hW=> ?_)|refine calls_name (fun W hW=> ?_)
 have HW:Hid (Below w.heap.size w W):=Lib.hid (by rw[←hW];repeat (first|exact Below.refl _ _|refine below_alloc ?_))
 have HWs:Hid (W.heap.size=w.heap.size+1+1+1):=Lib.hid (by rw[←hW];simp)
 have HBW:Hid (W.heap.size≤W.heap.size):=Lib.hid (by have:=HWs.out;omega)
 have HC:=fun(W1:World) (hb:Below (W.heap.size) W W1)=>Lib.hid (show W1.cell? ⟨w.heap.size,0,none⟩=some (.slice va vn vc)∧W1.cell? ⟨w.heap.size,1,none⟩=some (.slice ea en ec)∧W1.cell? ⟨w.heap.size+1,0,none⟩=some (.int .i64 hh)∧W1.cell? ⟨w.heap.size+1,1,none⟩=some (.bool hbk)∧W1.cell? ⟨w.heap.size+1+1,0,none⟩=some (.int .i64 0)∧W1.cell? ⟨w.heap.size+1+1,1,none⟩=some (.bool false) from by have hs:=HWs.out;refine⟨?_, ?_, ?_, ?_, ?_, ?_⟩<;>(refine(hb.cell (by dsimp only;omega)).trans ?_;rw[←hW];clear hW;go_simp))
 have HB:=Lib.hid (Below.refl (W.heap.size) W)
 have HZ:=fun(W1:World) (hb:W.heap.size≤W1.heap.size)=>Lib.hid (show w.heap.size<W1.heap.size∧w.heap.size+1<W1.heap.size∧w.heap.size+1+1<W1.heap.size from by have:=HWs.out;refine⟨?_, ?_, ?_⟩<;>omega)
 obtain⟨qx0,qx1,qx2,qx3,qx4,qx5⟩:=(HC _ HB.out).out
 obtain⟨rx0,rx1,rx2⟩:=(HZ _ HB.out.size).out
 have HQ:=Lib.hid (show W.rowIs (w.heap.size+1+1) 91 2 (hfF ⟨0,false⟩) from by
  have:=World.rowIs_alloc ((w.alloc (.cells #[.slice va vn vc, .slice ea en ec] 25)).alloc (.cells #[.int .i64 hh, .bool hbk] 91)) #[.int .i64 0, .bool false] 91 (hfF ⟨0,false⟩) (fun i hi=>by rcases i with _|_|i<;>first|rfl|(simp at hi;omega))
  rw[hW] at this
  simpa using this)
 clear hW
 go_upto_region 1 with fail
 clear qx0 qx1 qx2 qx3 qx4 qx5 rx0 rx1 rx2
 have HY:=fun(w':World) (t:Below W.heap.size W w')=>Lib.hid (show w'.cell? ⟨w.heap.size,0,none⟩=some (.slice va vn vc)∧w'.cell? ⟨w.heap.size,1,none⟩=some (.slice ea en ec)∧w'.cell? ⟨w.heap.size+1,0,none⟩=some (.int .i64 hh)∧w'.cell? ⟨w.heap.size+1,1,none⟩=some (.bool hbk) from by
  obtain⟨d0,d1,d2,d3, -⟩:=(HC _ t).out
  exact⟨d0,d1,d2,d3⟩)
 have HS0:=Lib.hid (Below.refl W.heap.size W).drew
 refine wp_region_noPanic ?_
 refine wp_region_par3 6 6 (by kernel_rfl) (by kernel_rfl) (by simp) (by omega) (by kernel_rfl) (by kernel_rfl) (fun w':World=>Below W.heap.size W w') ?_
 refine par3_read (v:= ?_) 0 (by simp only[zga,zgb,zgc];rfl) (by kernel_rfl) (by rfl) HS0.out ?_ (fun _ _ _ h=>h) ?_
 rotate_left
 ·(intro w9 hSw;obtain⟨y0,y1,y2,y3⟩:=(HY w9 hSw).out;clear hSw;go_simp;try with_reducible rfl)
 simp only[Act.put,zpa,zpb,zpc]
 refine par3_read (v:= ?_) 1 (by simp only[zga,zgb,zgc];rfl) (by kernel_rfl) (by rfl) HS0.out ?_ (fun _ _ _ h=>h) ?_
 rotate_left
 ·(intro w9 hSw;obtain⟨y0,y1,y2,y3⟩:=(HY w9 hSw).out;clear hSw;go_simp;try with_reducible rfl)
 simp only[Act.put,zpa,zpb,zpc]
 refine par3_read (v:= ?_) 2 (by simp only[zga,zgb,zgc];rfl) (by kernel_rfl) (by rfl) HS0.out ?_ (fun _ _ _ h=>h) ?_
 rotate_left
 ·(intro w9 hSw;obtain⟨y0,y1,y2,y3⟩:=(HY w9 hSw).out;clear hSw;go_simp;try with_reducible rfl)
 simp only[Act.put,zpa,zpb,zpc]
 refine par3_nm (fun W0 hW0=> ?_)
 rw[←hW0] at HS0
 clear hW0
 refine par3_one 3 (by simp only[zga,zgb,zgc];rfl) (by kernel_rfl) (by rfl) ?_
 refine owp_call (by go_simp;constructor<;>rfl) ?_
 refine(HTW _).out.mono ?_
 rintro z W3 ⟨rfl,hb9⟩
 have HS3:=Lib.hid (below_next HS0.out HS0.out.size hb9)
 refine⟨_,rfl,fun s _=>HS3.out, ?_⟩
 clear hb9
 simp only[Act.put,zpa,zpb,zpc]
 refine par3_one 4 (by simp only[zga,zgb,zgc];rfl) (by kernel_rfl) (by rfl) ?_
 refine owp_call (by go_simp;constructor<;>rfl) ?_
 refine(HF _ (HW.out.trans (HS3.out.mono HW.out.size))).out.mono ?_
 rintro z W4 ⟨rfl,hb9⟩
 have HS4:=Lib.hid (below_next HS3.out HS3.out.size hb9)
 refine⟨_,rfl,fun s _=>HS4.out, ?_⟩
 clear hb9
 simp only[Act.put,zpa,zpb,zpc]
 refine par3_one 5 (by simp only[zga,zgb,zgc];rfl) (by kernel_rfl) (by rfl) ?_
 refine owp_call (by go_simp;constructor<;>rfl) ?_
 refine(HO _ (HW.out.trans (HS4.out.mono HW.out.size))).out.mono ?_
 rintro z W5 ⟨⟨oa,m,oc,rfl,hm5,hown⟩,hb9⟩
 have HB:=Lib.hid (below_next HS4.out HS4.out.size hb9)
 have HRW:=Lib.hid (hsIn_of_own hown hm5)
 have HML:=Lib.hid hm5
 have hm6:m≤2048:=by omega
 refine⟨_,rfl,fun s _=>HB.out, ?_⟩
 clear hb9 hown hm5
 simp only[Act.put,zpa,zpb,zpc]
 refine par3_tail _ (by simp only[List.drop_succ_cons,List.drop_zero];rfl) (by kernel_rfl) ?_
 clear hlen
 go_wp2_with fail
 refine NoPanic.normal ?_
 go_wp2_with fail
 clear HY HS0 HS3 HS4 HF HO
 go_loopw [6] (fun v wr=> ∃k:Nat,k≤m∧v= .int .i64 k∧(∀y∈L.take k,y≠⟨te,tb⟩)∧Below W5.heap.size W5 wr) (fun v _=>m - (intOf v).toNat)
 case atStart=>exact⟨0,Nat.zero_le _,rfl,fun y hy=>by simp at hy,Below.refl _ _⟩
 case round=>
  obtain⟨k,hk,rfl,hall,hb⟩:=hrel
  have HB5:=Lib.hid hb
  have HB:=Lib.hid (HB.out.trans (hb.mono HB.out.size))
  have HA:=Lib.hid hall
  have HX:=Lib.hid (HW.out.trans (HB.out.mono HW.out.size))
  clear hb hall
  obtain⟨qx0,qx1,qx2,qx3,qx4,qx5⟩:=(HC _ HB.out).out
  obtain⟨rx0,rx1,rx2⟩:=(HZ _ HB.out.size).out
  by_cases hlt:k<m
  ·obtain⟨ob,ooff,rfl,hob,hcell⟩:=HRW.out.row (by omega)
   obtain⟨v,hv⟩: ∃v,L[k]? =some v:=⟨_,List.getElem?_eq_getElem (by have:=HML.out;omega)⟩
   have HVK:=Lib.hid hv
   have HCV:=fun(W1:World) (hb:Below W5.heap.size W5 W1)=>Lib.hid (hcell W1 hb)
   clear hcell hv
   cases hq:decide (v=⟨te,tb⟩)
   ·have re:=eq_hf_of hq
    have HN:=Lib.hid (of_decide_eq_false hq)
    clear hq
    simp only at re
    go_wp2_with fail
    refine wp_name (fun c3 hc3=> ?_)
    have HB:=bnm HB HBW hc3
    have HBC:=Lib.hid (hc3▸HB5.out);have HXC:=Lib.hid (hc3▸HX.out);have y9:=fun(x0:Later c3)=>((HCV x0.1 (below_step x0.2 HBC.out)).out k v HVK.out)
    clear hc3
    have xx:=fun(x:Later c3)=>(HC _ (bnl HB HBW x.2)).out
    simp only[forall_and] at xx
    obtain⟨xx0,xx1,xx2,xx3,xx4,xx5⟩:=xx
    refine wp_region_later (by kernel_rfl) (by kernel_rfl) ?_
    repeat (first|go_big_quiet_step (((go_at_call 84;with_reducible refine Later.call (HTW _).out)))|quiet_step (((go_at_call 84;with_reducible refine Later.call (HTW _).out))))
    refine wpQuiet_nil ?_
    intro wt hw3
    have hb3:=later_below hw3
    clear hw3
    have HB:=Lib.hid (bnl HB HBW hb3)
    clear xx0 xx1 xx2 xx3 xx4 xx5
    clear qx0 qx1 qx2 qx3 qx4 qx5 rx0 rx1 rx2
    obtain⟨qx0,qx1,qx2,qx3,qx4,qx5⟩:=(HC _ HB.out).out
    have HB5:=Lib.hid (below_step hb3 HBC.out);have HX:=Lib.hid (below_step hb3 HXC.out)
    clear hb3
    obtain⟨rx0,rx1,rx2⟩:=(HZ _ HB.out.size).out
    go_wp2_with fail
    go_roundw
    case rel=>
     refine⟨k+1,by omega,by go_num,fun y hy=> ?_,HB5.out⟩
     rw[take_snoc' HVK.out] at hy
     rcases List.mem_append.1 hy with hy|hy
     ·exact HA.out y hy
     ·simp at hy;subst hy;exact HN.out
    case measure=>simp[intOf];omega
   ·have re:=eq_hf_of hq
    have hve:=of_decide_eq_true hq
    have hat:=HAT k (by rw[←hve];exact HVK.out) HA.out
    have HAA:=Lib.hid hat
    clear hq hve hat
    simp only at re
    go_wp2_with fail
    refine wp_name (fun c4 hc4=> ?_)
    have HB:=bnm HB HBW hc4
    have HBC:=Lib.hid (hc4▸HB5.out);have HXC:=Lib.hid (hc4▸HX.out);have y9:=fun(x0:Later c4)=>((HCV x0.1 (below_step x0.2 HBC.out)).out k v HVK.out)
    clear hc4
    have xx:=fun(x:Later c4)=>(HC _ (bnl HB HBW x.2)).out
    simp only[forall_and] at xx
    obtain⟨xx0,xx1,xx2,xx3,xx4,xx5⟩:=xx
    refine wp_region_later (by kernel_rfl) (by kernel_rfl) ?_
    repeat (first|go_big_quiet_step (((go_at_call 84;with_reducible refine Later.call (HTW _).out)))|quiet_step (((go_at_call 84;with_reducible refine Later.call (HTW _).out))))
    refine wpQuiet_nil ?_
    intro wt hw4
    have hb4:=later_below hw4
    clear hw4
    have HB:=Lib.hid (bnl HB HBW hb4)
    clear xx0 xx1 xx2 xx3 xx4 xx5
    clear qx0 qx1 qx2 qx3 qx4 qx5 rx0 rx1 rx2
    obtain⟨qx0,qx1,qx2,qx3,qx4,qx5⟩:=(HC _ HB.out).out
    have HB5:=Lib.hid (below_step hb4 HBC.out);have HX:=Lib.hid (below_step hb4 HXC.out)
    clear hb4
    obtain⟨rx0,rx1,rx2⟩:=(HZ _ HB.out.size).out
    have HQ1:=Lib.hid (rowIs_touch HQ.out (Touch.of_below (F:=[]) HB.out) (by simp))
    have f0:=fun i=>World.rowIs.frozen HQ1.out i
    rcases k with _|j
    ·obtain⟨m',rfl⟩: ∃m',m=m'+1:=⟨m - 1,by omega⟩
     obtain⟨n0,n1⟩:=(HCV _ HB5.out).out m' N (by have h1:=HAA.out.1 rfl;rw[←HML.out] at h1;exact h1)
     have hm7:m'<m'+1:=by omega
     go_wp2_with fail
     refine bodyPost_ret_by (res_hf (q:=N) Tryz.results44 rfl (World.rowIs.congr (World.rowIs.set (World.rowIs.set HQ1.out 0 _) 1 _) (fun i hi=>by rcases i with _|_|i<;>first|rfl|exact absurd hi (by omega)))) rfl ?_
     exact⟨rfl,((HX.out).setCell (p:=⟨w.heap.size+1+1,0,none⟩) (by show _≤w.heap.size+1+1;omega) _).setCell (p:=⟨w.heap.size+1+1,1,none⟩) (by show _≤w.heap.size+1+1;omega) _⟩
    ·obtain⟨n0,n1⟩:=(HCV _ HB5.out).out j N (HAA.out.2 j rfl)
     have hj7:j<m:=by omega
     go_wp2_with fail
     refine bodyPost_ret_by (res_hf (q:=N) Tryz.results44 rfl (World.rowIs.congr (World.rowIs.set (World.rowIs.set HQ1.out 0 _) 1 _) (fun i hi=>by rcases i with _|_|i<;>first|rfl|exact absurd hi (by omega)))) rfl ?_
     exact⟨rfl,((HX.out).setCell (p:=⟨w.heap.size+1+1,0,none⟩) (by show _≤w.heap.size+1+1;omega) _).setCell (p:=⟨w.heap.size+1+1,1,none⟩) (by show _≤w.heap.size+1+1;omega) _⟩
  ·exfalso
   have hmm:=HMM.out
   rw[←List.take_of_length_le (l:=L) (i:=k) (by have:=HML.out;omega)] at hmm
   exact HA.out _ hmm rfl
end Go.Proofs.YthopjhifepijiaaGreat
namespace Go.Proofs.YthopjhifepijiaaGreat
open Go.RowKit Go.Joins
section
variable {p:PL} {k:Nat} {L:List (List Hf)} {M R:List Hf} {h0 h:Hf}
def PreM (p:PL) (M:List Hf):Prop:= ∀x∈halvesE p.es,nextP p x∈M→x∈M
structure OrbT (p:PL) (M:List Hf) (h0:Hf) (R:List Hf) (h:Hf):Prop where
 s:OrbS p M h0 R h
 pre:PreM p M
 new:h0∉M
 from_:(R=[]∧h=h0)∨ ∃y∈R,h=nextP p y
theorem OrbT.notM (o:OrbT p M h0 R h):h∉M:=by
 rcases o.from_ with ⟨_,e⟩|⟨y,hy,e⟩
 ·rw[e];exact o.new
 ·intro hm
  rw[e] at hm
  have h1:=o.pre y (o.s.mem y (List.mem_append_right _ hy)) hm
  exact(List.nodup_append.1 o.s.nd).2.2 y h1 y hy rfl
theorem OrbT.step (r:RightP p) (o:OrbT p M h0 R h) (hh:h∉R):OrbT p M h0 (R++[h]) (nextP p h):=
 ⟨o.s.step r (fun hm=>(List.mem_append.1 hm).elim o.notM hh),o.pre,o.new, .inr ⟨h,by simp,rfl⟩⟩
theorem OrbT.ring (r:RightP p) (o:OrbT p M h0 R h) (hh:h∈R):Ring (nextP p) (halvesE p.es) M h0 R:=by
 rw[o.s.stop (List.mem_append_right _ hh)]
 have h0a:h0∈halvesE p.es:=by
  obtain⟨⟨m,hm,e,_⟩,_⟩:=o.s
  have:=orb_ring (f:=nextP p) (all:=halvesE p.es) (met:=M) (fun x hx=>r.next_half hx) (fun x hx y hy e=>r.next_inj hx hy e) o.pre (h:=h) o.s.hm o.notM (n:=2*p.es.length+1) (by rw[halves_len];omega)
  by_cases hR:R=[]
  ·subst hR;cases hh
  ·obtain⟨z,R',rfl⟩: ∃z R',R=z::R':=by cases R with
    |nil=>exact absurd rfl hR
    |cons z R'=>exact⟨z,R',rfl⟩
   have hz:=o.s.mem z (by simp)
   have e2:=e
   rw[List.cons_append] at e2
   unfold orbF at e2
   rw[if_neg o.new] at e2
   injection e2 with e3 _
   rw[←e3]
   exact hz
 exact orb_ring (fun x hx=>r.next_half hx) (fun x hx y hy e=>r.next_inj hx hy e) o.pre h0a o.new (by rw[halves_len];omega)
theorem OrbT.full (o:OrbT p M h0 R h) (hl:R.length=2*p.es.length):h∈R:=by
 by_cases hh:h∈R
 ·exact hh
 ·have:=nodup_len (P:=h::R) (all:=halvesE p.es) (List.nodup_cons.2 ⟨hh,(List.nodup_append.1 o.s.nd).2.1⟩) (fun x hx=>by
   rcases List.mem_cons.1 hx with rfl|hx
   ·exact o.s.hm
   ·exact o.s.mem x (List.mem_append_right _ hx))
  rw[halves_len] at this
  simp at this
  omega
theorem PreM.add (r:RightP p) (pre:PreM p M) (hr:Ring (nextP p) (halvesE p.es) M h0 R):PreM p (M++R):=fun x hx hn=>by
 rcases List.mem_append.1 hn with hn|hn
 ·exact List.mem_append_left _ (pre x hx hn)
 ·obtain⟨y,hy,e⟩:=hr.has_prev hn
  rw[←r.next_inj (hr.mem y hy).1 hx e]
  exact List.mem_append_right _ hy
end
def ziv (L:List (List Hf)) (Z:List (Nat × Nat)):List Value:=List.zipWith (fun R z=>Value.slice (some ⟨z.1,0,none⟩) R.length z.2) L Z
theorem ziv_app {L:List (List Hf)} {Z:List (Nat × Nat)} (h:Z.length=L.length) (R:List Hf) (z:Nat × Nat):ziv (L++[R]) (Z++[z])=ziv L Z++[.slice (some ⟨z.1,0,none⟩) R.length z.2]:=by
 unfold ziv
 rw[List.zipWith_append h.symm]
 rfl
structure RiG (tS:TypeId) (lo:Nat) (w:World) (v:Value) (L:List (List Hf)) (Z:List (Nat × Nat)):Prop where
 own:w.ownsRow lo tS 1 v L.length (ziv L Z)
 len:Z.length=L.length
 apart: ∀z∈Z,v.ownBlock≠some z.1
 rows: ∀(i:Nat) (R:List Hf) (z:Nat × Nat),L[i]? =some R→Z[i]? =some z→lo≤z.1∧z.1<w.heap.size∧HsAt w z.1 0 R
theorem RiG.nil (tS:TypeId) (lo:Nat) (w:World):RiG tS lo w (.slice none 0 0) [] []:=⟨World.ownsRow_nil _ _ _ _,rfl,by simp,by simp⟩
theorem RiG.touch {tS:TypeId} {lo:Nat} {w w':World} {v:Value} {L:List (List Hf)} {Z:List (Nat × Nat)} {F:List Nat} (h:RiG tS lo w v L Z) (t:Touch F w w') (hv: ∀g,v.ownBlock=some g→g∉F) (hz: ∀z∈Z,z.1∉F):RiG tS lo w' v L Z:=
 ⟨ownsRow_touch h.own t hv,h.len,h.apart,fun i R z hR hZ=>by
  obtain⟨h0,h1,h2⟩:=h.rows i R z hR hZ
  exact⟨h0,Nat.lt_of_lt_of_le h1 t.size,h2.touch t h1 (hz z (List.mem_of_getElem? hZ))⟩⟩
theorem RiG.lt {tS:TypeId} {lo:Nat} {w:World} {v:Value} {L:List (List Hf)} {Z:List (Nat × Nat)} (h:RiG tS lo w v L Z) {z:Nat × Nat} (hz:z∈Z):z.1<w.heap.size:=by
 obtain⟨i,hi⟩:=List.mem_iff_getElem?.1 hz
 have hl:=(List.getElem?_eq_some_iff.1 hi).1
 have hR:=List.getElem?_eq_getElem (l:=L) (i:=i) (by rw[←h.len];exact hl)
 exact(h.rows i _ z hR hi).2.1
theorem RiG.add {tS:TypeId} {lo g c:Nat} {w w':World} {v v':Value} {L:List (List Hf)} {Z:List (Nat × Nat)} {R:List Hf} {q:Obj} (h:RiG tS lo w v L Z) (hl:lo≤g) (hg:g<w.heap.size) (hR:HsAt w g 0 R) (hne:v.ownBlock≠some g)
  (hown:w'.ownsRow lo tS 1 v' (L.length+1) (ziv L Z++[.slice (some ⟨g,0,none⟩) R.length c])) (hgr:(w.alloc q).grownBy w' v.ownBlock) (hat: ∀b,v'.ownBlock=some b→v.ownBlock=some b∨(w.alloc q).heap.size≤b):RiG tS lo w' v' (L++[R]) (Z++[(g,c)]):=by
 have t:Touch v.ownBlock.toList w w':=(Touch.of_below (F:=v.ownBlock.toList) (below_alloc (o:=q) (Below.refl w.heap.size w))).trans (Touch.of_grown hgr) (fun x hx=> .inl hx)
 have h2:=h.touch (F:=v.ownBlock.toList) t
 refine⟨by rw[ziv_app h.len,List.length_append];exact hown,by simp[h.len],fun z hz e=> ?_,fun i S z hS hZ=> ?_⟩
 ·have hz':v.ownBlock≠some z.1∧z.1<w.heap.size:=by
   rcases List.mem_append.1 hz with hz|hz
   ·exact⟨h.apart z hz,h.lt hz⟩
   ·simp at hz;subst hz;exact⟨hne,hg⟩
  rcases hat _ e with h1|h1
  ·exact hz'.1 h1
  ·simp at h1;omega
 ·by_cases hi:i<L.length
  ·rw[List.getElem?_append_left hi] at hS
   rw[List.getElem?_append_left (by rw[h.len];exact hi)] at hZ
   obtain⟨h0,h1,h3⟩:=h.rows i S z hS hZ
   exact⟨h0,Nat.lt_of_lt_of_le h1 t.size,h3.touch t h1 (fun hm=>h.apart z (List.mem_of_getElem? hZ) (Option.mem_toList.1 hm))⟩
  ·have hlt:=(List.getElem?_eq_some_iff.1 hS).1
   simp at hlt
   obtain rfl:i=L.length:=by omega
   rw[List.getElem?_append_right (Nat.le_refl _)] at hS
   rw[List.getElem?_append_right (by rw[h.len];exact Nat.le_refl _),h.len] at hZ
   simp at hS hZ
   subst hS hZ
   exact⟨hl,Nat.lt_of_lt_of_le hg t.size,hR.touch t hg (fun hm=>hne (Option.mem_toList.1 hm))⟩
theorem RiG.in_ {tS:TypeId} {lo n c:Nat} {w:World} {a:Option Addr} {L:List (List Hf)} {Z:List (Nat × Nat)} (h:RiG tS lo w (.slice a n c) L Z) (hn:n=L.length):RgIn w w.heap.size a n L:=by
 subst hn
 refine⟨rfl, ?_⟩
 rcases Nat.eq_zero_or_pos L.length with h0|h0
 ·exact .inl h0
 ·obtain⟨g,cap,e⟩:=ownsRow_form h.own h0
  injection e with e1 e2 e3
  subst e1
  refine .inr ⟨g,0,rfl,(h.own.lt g rfl).2,fun i R hi=> ?_⟩
  have hl:=(List.getElem?_eq_some_iff.1 hi).1
  have hZ:=List.getElem?_eq_getElem (l:=Z) (i:=i) (by rw[h.len];exact hl)
  obtain⟨h0,h1,h2⟩:=h.rows i R _ hi hZ
  have hc:=(addr_add0 g i)▸h.own.cells (g:=g) rfl (j:=i) (u:= .slice (some ⟨(Z[i]'(by rw[h.len];exact hl)).1,0,none⟩) R.length (Z[i]'(by rw[h.len];exact hl)).2) (by unfold ziv;rw[List.getElem?_zipWith,hi,hZ])
  exact⟨_,_,by simpa using hc,rfl, .inr ⟨_,0,rfl,h1,h2⟩⟩
theorem RiG.out_ {tS:TypeId} {lo n c:Nat} {w:World} {a:Option Addr} {L:List (List Hf)} {Z:List (Nat × Nat)} (h:RiG tS lo w (.slice a n c) L Z) (hn:n=L.length):RgOut lo w a L:=by
 subst hn
 rcases Nat.eq_zero_or_pos L.length with h0|h0
 ·exact .inl (List.eq_nil_of_length_eq_zero h0)
 ·obtain⟨g,cap,e⟩:=ownsRow_form h.own h0
  injection e with e1 e2 e3
  subst e1
  refine .inr ⟨g,rfl,(h.own.lt g rfl).1,(h.own.lt g rfl).2,fun i R hi=> ?_⟩
  have hl:=(List.getElem?_eq_some_iff.1 hi).1
  have hZ:=List.getElem?_eq_getElem (l:=Z) (i:=i) (by rw[h.len];exact hl)
  obtain⟨h0,h1,h2⟩:=h.rows i R _ hi hZ
  have hc:=(addr_add0 g i)▸h.own.cells (g:=g) rfl (j:=i) (u:= .slice (some ⟨(Z[i]'(by rw[h.len];exact hl)).1,0,none⟩) R.length (Z[i]'(by rw[h.len];exact hl)).2) (by unfold ziv;rw[List.getElem?_zipWith,hi,hZ])
  exact⟨_,_,by simpa using hc,h0,h1,h2⟩
theorem RgOut.at_ {lo lb loff c k:Nat} {w:World} {a:Option Addr} {L:List (List Hf)} {R:List Hf} (h:RgOut lo w (some ⟨lb,loff,none⟩) L) (hR:L[k]? =some R) (hc:w.cell? ⟨lb,loff+k,none⟩=some (.slice a R.length c)): ∃g,a=some ⟨g,0,none⟩∧lo≤g∧g<w.heap.size∧HsAt w g 0 R:=by
 rcases h with rfl|⟨b,e, -, -,hs⟩
 ·simp at hR
 ·injection e with e
  injection e with e1 e2
  subst e1 e2
  obtain⟨g,c',hx,h1,h2,h3⟩:=hs k R hR
  rw[Nat.zero_add,hx] at hc
  injection hc with hc
  injection hc with hc
  exact⟨g,hc.symm,h1,h2,h3⟩
end Go.Proofs.YthopjhifepijiaaGreat
namespace Go.Proofs.YthopjhifepijiaaGreat
open Go.RowKit Go.Joins
theorem hfC_one {R:List Hf}: ∀u∈hfC R,u.oneCell'=true:=fun u hu=>by
 unfold hfC at hu
 obtain⟨h,_,hh⟩:=List.mem_flatMap.1 hu
 simp at hh
 rcases hh with rfl|rfl<;>rfl
theorem hfC_len (R:List Hf):(hfC R).length=R.length*2:=by
 unfold hfC
 induction R with
 |nil=>rfl
 |cons h R ih=>rw[List.flatMap_cons,List.length_append,ih];simp;omega
structure RgT (p:PL) (w1 wr:World) (k:Nat) (ov mv:Value) (L:List (List Hf)) (Z:List (Nat × Nat)) (Mt:List Hf):Prop where
 s:RngS p k L Mt
 pre:PreM p Mt
 out:RiG 33 w1.heap.size wr ov L Z
 met:wr.ownsRow w1.heap.size 91 2 mv Mt.length (hfC Mt)
 sep: ∀z∈Z,mv.ownBlock≠some z.1
 blw:Below w1.heap.size w1 wr
theorem RgT.later {p:PL} {w1 wr w5:World} {k:Nat} {ov mv:Value} {L:List (List Hf)} {Z:List (Nat × Nat)} {Mt:List Hf} (h:RgT p w1 wr k ov mv L Z Mt) (b:Below wr.heap.size wr w5):RgT p w1 w5 k ov mv L Z Mt:=
 ⟨h.s,h.pre,h.out.touch (Touch.of_below (F:=[]) b) (by simp) (by simp),ownsRow_touch h.met (Touch.of_below (F:=[]) b) (by simp),h.sep,below_step b h.blw⟩
theorem RgT.box {p:PL} {w1 w4 W:World} {k:Nat} {ov mv:Value} {L:List (List Hf)} {Z:List (Nat × Nat)} {Mt:List Hf} (h:RgT p w1 w4 k ov mv L Z Mt) (t:Touch [w4.heap.size] w4 W):RgT p w1 W k ov mv L Z Mt:=
 ⟨h.s,h.pre,h.out.touch t (fun g hg hm=>by have:=(h.out.own.lt g hg).2;simp at hm;omega) (fun z hz hm=>by have:=h.out.lt hz;simp at hm;omega),ownsRow_touch h.met t (fun g hg hm=>by have:=(h.met.lt g hg).2;simp at hm;omega),h.sep,h.blw.trans (Touch.below t h.blw.size (by intro b hb;have:=h.blw.size;simp at hb;omega))⟩
theorem own_cells {w:World} {base n c g:Nat} {t:TypeId} {l:List Value} {size:Nat} (h:w.ownsRow base t size (.slice (some ⟨g,0,none⟩) n c) n l): ∀(j:Nat) (u:Value),l[j]? =some u→w.cell? ((⟨g,0,none⟩:Addr).add j)=some u:=fun j u hu=>h.cells (g:=g) rfl (j:=j) (u:=u) hu
set_option maxRecDepth 100000 in
set_option maxHeartbeats 16000000 in
theorem r16rings_any {w:World} {B vn vc en ec:Nat} {va ea:Option Addr} {p:PL} (r:RightP p) (hv:VsIn w B va vn p.vs) (he:EsIn w B ea en p.es) (hB:B≤w.heap.size):
  Calls Tryz.prog 31 #[.agg #[.slice va vn vc, .slice ea en ec]] w fun e w'=>(∃a n c,e= .returned (.slice a n c)∧RgIn w' w'.heap.size a n (ringsP p)∧RgOut w.heap.size w' a (ringsP p))∧Below w.heap.size w w':=by
 have hm:en≤1024:=by have:=r.ne;have:=he.1;omega
 have hlen:(halvesE p.es).length=2*en:=by rw[halves_len,he.1]
 have HHV:=fun(W:World) (hb:Below w.heap.size w W)=>Lib.hid (r16halves_any (w:=W) (ec:=ec) (he.below (hb.mono hB)) (Nat.le_trans hB hb.size) (by omega) (.slice va vn vc) ⟨_,_,_,rfl⟩)
 have HNX:=fun(W:World) (hb:Below w.heap.size w W) (h:Hf) (hm:h∈halvesE p.es)=>Lib.hid (r16next_any (w:=W) (vc:=vc) (ec:=ec) r (hv.below (hb.mono hB)) (he.below (hb.mono hB)) (Nat.le_trans hB hb.size) h hm)
 obtain⟨i0,hi,hz0,hz1,hz2⟩:=info_parts Tryz.infoHf
 obtain⟨j0,hj0,hy0,hy1,hy2⟩:=info_parts Tryz.infoHs
 obtain⟨M,hM⟩: ∃M,M=2*en:=⟨_,rfl⟩
 have hM3:M=2*p.es.length:=by have:=he.1;omega
 rw[←hM] at HHV hlen
 have hM2:M≤2048:=by omega
 have HLN:=Lib.hid hlen
 have HML:=Lib.hid hM3
 have HR:=Lib.hid r
 clear hv he r hlen hM hM3
 go_enter Tryz.func31,Tryz.ntmps31
 go_wp2_with fail
 first|refine wp_name (fun W hW=> ?_)|refine calls_name (fun W hW=> ?_)
 have HW:Hid (Below w.heap.size w W):=Lib.hid (by rw[←hW];repeat (first|exact Below.refl _ _|refine below_alloc ?_))
 have HWs:Hid (W.heap.size=w.heap.size+1):=Lib.hid (by rw[←hW];simp)
 have HBW:Hid (W.heap.size≤W.heap.size):=Lib.hid (by have:=HWs.out;omega)
 have HC:=fun(W1:World) (hb:Below (W.heap.size) W W1)=>Lib.hid (show W1.cell? ⟨w.heap.size,0,none⟩=some (.slice va vn vc)∧W1.cell? ⟨w.heap.size,1,none⟩=some (.slice ea en ec) from by have hs:=HWs.out;refine⟨?_, ?_⟩<;>(refine(hb.cell (by dsimp only;omega)).trans ?_;rw[←hW];clear hW;go_simp))
 have HB:=Lib.hid (Below.refl (W.heap.size) W)
 clear hW
 have HZ:=fun(W1:World) (hb:W.heap.size≤W1.heap.size)=>Lib.hid (show w.heap.size<W1.heap.size from by have:=HWs.out;omega)
 obtain⟨qx0,qx1⟩:=(HC _ HB.out).out
 have rx0:=(HZ _ HB.out.size).out
 refine((HHV _ HW.out).out).mono ?_
 rintro e w1 ⟨⟨aa,ca,rfl,hall⟩,hb2⟩
 have HB:=bnx HB HBW hb2
 clear qx0 qx1 rx0
 obtain⟨qx0,qx1⟩:=(HC _ HB.out).out
 clear hb2
 have rx0:=(HZ _ HB.out.size).out
 have HAL:=Lib.hid hall
 clear hall
 go_wp2_with fail
 have HX1:=Lib.hid (HW.out.trans (HB.out.mono HW.out.size))
 have HSW:=Lib.hid (show W.heap.size≤w1.heap.size from HB.out.size)
 clear qx0 qx1 rx0
 go_loopw [3,4,6] (fun o mt v wr=> ∃(k:Nat) (ov mv:Value) (L:List (List Hf)) (Z:List (Nat × Nat)) (Mt:List Hf),k≤M∧v= .int .i64 k∧ov=o∧mv=mt∧RgT p w1 wr k ov mv L Z Mt) (fun _ _ v _=>M - (intOf v).toNat)
 case atStart=>exact⟨0,_,_,[],[],[],Nat.zero_le _,rfl,rfl,rfl,RngS.start p,fun x hx hn=>by simp at hn,RiG.nil _ _ _,World.ownsRow_nil _ _ _ _,by simp,Below.refl _ _⟩
 case round=>
  obtain⟨k,ov,mv,L,Z,Mt,hk,rfl,rfl,rfl,hI⟩:=hrel
  obtain⟨wq,rfl⟩: ∃x:World,x=wr:=⟨_,rfl⟩
  have HI:=Lib.hid hI
  have HB:=Lib.hid (HB.out.trans (hI.blw.mono HB.out.size))
  have HX:=Lib.hid (HX1.out.trans (hI.blw.mono HX1.out.size))
  clear hI
  obtain⟨qx0,qx1⟩:=(HC _ HB.out).out
  have rx0:=(HZ _ HB.out.size).out
  by_cases hlt:k<M
  ·obtain⟨x,hx⟩: ∃x,(halvesE p.es)[k]? =some x:=⟨_,List.getElem?_eq_getElem (by have:=HLN.out;omega)⟩
   have HXK:=Lib.hid hx
   have HXM:=Lib.hid (List.mem_of_getElem? hx)
   obtain⟨ab,aoff,rfl,hab,hcell⟩:=(hsIn_of_own HAL.out HLN.out.symm).row (by omega)
   obtain⟨c8,c9⟩:=hcell wq HI.out.blw k x hx
   clear hcell hx
   obtain⟨ma,mc,rfl⟩:=own_form HI.out.met
   have HML2:=Lib.hid (show Mt.length≤M from by have h1:=nodup_len HI.out.s.nd HI.out.s.mem;have:=HLN.out;omega)
   have HHS:=Lib.hid (r16has_any (c:=mc) (hsIn_of_own HI.out.met rfl) (Nat.le_refl _) (by have:=HML2.out;omega) x)
   cases hin:decide (x∈Mt)
   ·rw[hin] at HHS
    have HNI:=Lib.hid (of_decide_eq_false hin)
    clear hin
    obtain⟨m,hml⟩: ∃m,m=Mt.length:=⟨_,rfl⟩
    rw[←hml] at HHS ⊢
    have HMM:=Lib.hid hml
    clear hml
    go_wp2_with fail
    refine HHS.out.mono ?_
    rintro e w4 ⟨rfl,hb4⟩
    have HI:=Lib.hid (HI.out.later hb4)
    have HX:=Lib.hid (below_step hb4 HX.out)
    have HB:=Lib.hid (below_next HB.out (Nat.le_trans HBW.out HB.out.size) hb4)
    obtain⟨d8,d9⟩:w4.cell? ⟨ab,aoff+k*2,none⟩=some (.int .i64 x.edge)∧w4.cell? ⟨ab,aoff+k*2+1,none⟩=some (.bool x.back):=by
     have habq:ab<wq.heap.size:=by have:=HB.out.size;exact cell_lt c8
     exact⟨(hb4.cell (p:=⟨ab,_,none⟩) habq).trans c8,(hb4.cell (p:=⟨ab,_,none⟩) habq).trans c9⟩
    clear hb4
    clear qx0 qx1 rx0
    obtain⟨qx0,qx1⟩:=(HC _ HB.out).out
    have rx0:=(HZ _ HB.out.size).out
    go_wp2_with fail
    first|refine wp_name (fun W2 hW2=> ?_)|refine calls_name (fun W2 hW2=> ?_)
    have HW2:Hid (Below w4.heap.size w4 W2):=Lib.hid (by rw[←hW2];repeat (first|exact Below.refl _ _|refine below_alloc ?_))
    have HWs2:Hid (W2.heap.size=w4.heap.size+1):=Lib.hid (by rw[←hW2];simp)
    have HBW2:Hid (W2.heap.size≤W2.heap.size):=Lib.hid (by have:=HWs2.out;omega)
    have HC2:=fun(W1:World) (hb:Below (W2.heap.size) W2 W1)=>Lib.hid (show W1.cell? ⟨w.heap.size,0,none⟩=some (.slice va vn vc)∧W1.cell? ⟨w.heap.size,1,none⟩=some (.slice ea en ec)∧W1.cell? ⟨w4.heap.size,0,none⟩=some (.int .i64 x.edge)∧W1.cell? ⟨w4.heap.size,1,none⟩=some (.bool x.back) from by have ho:=(HC W1 (in_of HB.out HW2.out hb (Nat.le_trans HBW.out HB.out.size) (by have h1:=HBW.out;have h2:=HB.out.size;have h3:=HW2.out.size;have h4:=HWs2.out;omega))).out;have hs:=HWs2.out;have z1:=HWs.out;have z2:=HB.out.size;refine⟨ho.1,ho.2, ?_, ?_⟩<;>(refine(hb.cell (by dsimp only;omega)).trans ?_;rw[←hW2];clear hW2;go_simp))
    have HB2:=Lib.hid (Below.refl (W2.heap.size) W2)
    have HZ2:=fun(W1:World) (hb:W2.heap.size≤W1.heap.size)=>Lib.hid (show w.heap.size<W1.heap.size∧w4.heap.size<W1.heap.size from by have o0:=(HZ _ HB.out.size).out;have h3:=HW2.out.size;have:=HWs2.out;refine⟨?_, ?_⟩<;>omega)
    clear qx0 qx1 rx0
    obtain⟨qx0,qx1,qx2,qx3⟩:=(HC2 _ HB2.out).out
    obtain⟨rx0,rx1⟩:=(HZ2 _ HB2.out.size).out
    have HBX:=Lib.hid (show W2.rowIs w4.heap.size 91 2 (hfF x) from by
     have:=World.rowIs_alloc w4 #[.int .i64 x.edge, .bool x.back] 91 (hfF x) (fun i hi=>by rcases i with _|_|i<;>first|rfl|(simp at hi;omega))
     rw[hW2] at this
     exact this)
    clear hW2 d8 d9 c8 c9
    have HI2:=Lib.hid (HI.out.later HW2.out)
    have HX2:=Lib.hid (below_step HW2.out HX.out)
    have hws:=HWs2.out
    clear qx0 qx1 qx2 qx3 rx0 rx1
    go_loopw [7,9] (fun rv0 jv wi=> ∃(rv:Value) (R:List Hf) (h:Hf),jv= .int .i64 R.length∧rv=rv0∧OrbT p Mt x R h∧wi.ownsRow W2.heap.size 91 2 rv R.length (hfC R)∧wi.rowIs w4.heap.size 91 2 (hfF h)∧Touch [w4.heap.size] W2 wi) (fun _ jv _=>M - (intOf jv).toNat)
    case atStart=>exact⟨_,[],x,rfl,rfl,⟨OrbS.start HI.out.s.nd HI.out.s.mem HXM.out,HI.out.pre,HNI.out, .inl ⟨rfl,rfl⟩⟩,World.ownsRow_nil _ _ _ _,HBX.out,Touch.refl _ _⟩
    case round=>
     obtain⟨rv,R,h,rfl,rfl,ho,how,hbx,ht⟩:=hrel
     have HO:=Lib.hid ho
     have HOW:=Lib.hid how
     have HBH:=Lib.hid hbx
     have HT:=Lib.hid ht
     have hwr:w4.heap.size<wr.heap.size:=by have:=ht.size;omega
     have HXR:=Lib.hid (HX2.out.trans (Touch.below ht (B:=w.heap.size) (Nat.le_trans HX2.out.size (Nat.le_refl _)) (by intro b hb;simp at hb;have:=HX.out.size;omega)))
     have HBR:=Lib.hid (show Below W.heap.size W wr from(HB.out.trans (HW2.out.mono HB.out.size)).trans (Touch.below ht (by have:=HB.out.size;omega) (by intro b hb;simp at hb;have:=HB.out.size;omega)))
     have HRLN:=Lib.hid (show R.length≤M from by have:=ho.s.len;have:=HML.out;omega)
     have hrl:=HRLN.out
     obtain⟨p0,p1⟩:=(HC _ HBR.out).out
     have b0:wr.cell? ⟨w4.heap.size,0,none⟩=some (.int .i64 h.edge):=World.rowIs.cell hbx (i:=0) (by decide)
     have b1:wr.cell? ⟨w4.heap.size,1,none⟩=some (.bool h.back):=World.rowIs.cell hbx (i:=1) (by decide)
     have bf:=fun i=>World.rowIs.frozen hbx i
     obtain⟨ra,rc,rfl⟩:=own_form how
     have HHR:=Lib.hid (r16has_any (c:=rc) (hsIn_of_own how rfl) (Nat.le_refl _) (by omega) h)
     have HNH:=fun(W1:World) (hb:Below w.heap.size w W1)=>HNX W1 hb h ho.s.hm
     clear ho how hbx ht
     by_cases hrm:R.length<M
     ·cases hin2:decide (h∈R)
      ·rw[hin2] at HHR
       have HNR:=Lib.hid (of_decide_eq_false hin2)
       clear hin2
       go_wp2_with fail
       refine HHR.out.mono ?_
       rintro e w6 ⟨rfl,hb6⟩
       have HT6:=Lib.hid (touch_later HT.out hb6)
       have HO6:=Lib.hid (ownsRow_touch HOW.out (Touch.of_below (F:=[]) hb6) (by simp))
       have HH6:=Lib.hid (rowIs_touch HBH.out (Touch.of_below (F:=[]) hb6) (by simp))
       have hs6:=hb6.size
       clear hb6 b0 b1 bf p0 p1
       have b0:w6.cell? ⟨w4.heap.size,0,none⟩=some (.int .i64 h.edge):=World.rowIs.cell HH6.out (i:=0) (by decide)
       have b1:w6.cell? ⟨w4.heap.size,1,none⟩=some (.bool h.back):=World.rowIs.cell HH6.out (i:=1) (by decide)
       go_wp2_with (at_builtin;go_loud (refine wpList_append_near _ rfl (.tmp 40) (.tmp 42) 33 rfl W2.heap.size 91 i0 (.agg #[.int .i64 0, .bool false]) 2 16 Tryz.underlying33 hi hz0 hz1 hz2 rfl (by decide) (.slice ra R.length rc) R.length _ rfl (HO6.out.alloc _) ⟨w6.heap.size,0,none⟩ 1 1 [.int .i64 h.edge, .bool h.back] rfl (by decide) rfl (cell_list_at _ [.int .i64 h.edge, .bool h.back] _ rfl) (by intro u hu;simp at hu;rcases hu with rfl|rfl<;>rfl) (by unfold maxLen;omega) (by omega) (by have:=HT6.out.size;simp;omega) ?_;intro g6 cap6 w7 hown hgr hat;have HO7:=Lib.hid hown;have kk:=(Touch.of_below (F:=(Value.slice ra R.length rc).ownBlock.toList) (below_alloc (o:= .cells #[.int .i64 h.edge, .bool h.back] 91) (Below.refl w6.heap.size w6))).trans (Touch.of_grown hgr) (fun x hx=> .inl hx);have HH7:=Lib.hid (rowIs_touch HH6.out kk (fun hm=>by have:=(HO6.out.lt _ (Option.mem_toList.1 hm)).1;omega));have HT7:=Lib.hid (HT6.out.trans kk (fun q hq=> .inr (HO6.out.lt q (Option.mem_toList.1 hq)).1));have HX7:=Lib.hid (show Below w.heap.size w w7 from HX2.out.trans (Touch.below HT7.out (B:=w.heap.size) HX2.out.size (by intro b hb;simp at hb;have:=HX.out.size;omega)));have HB7:=Lib.hid (show Below W.heap.size W w7 from(HB.out.trans (HW2.out.mono HB.out.size)).trans (Touch.below HT7.out (by have:=HB.out.size;omega) (by intro b hb;simp at hb;have:=HB.out.size;omega)));clear hown hgr hat kk b0 b1;obtain⟨p0,p1⟩:=(HC _ HB7.out).out;have b0:w7.cell? ⟨w4.heap.size,0,none⟩=some (.int .i64 h.edge):=World.rowIs.cell HH7.out (i:=0) (by decide);have b1:w7.cell? ⟨w4.heap.size,1,none⟩=some (.bool h.back):=World.rowIs.cell HH7.out (i:=1) (by decide)))
       refine(HNH _ HX7.out).out.mono ?_
       rintro e w8 ⟨rfl,hb8⟩
       have HO8:=Lib.hid (ownsRow_touch HO7.out (Touch.of_below (F:=[]) hb8) (by simp))
       have HH8:=Lib.hid (rowIs_touch HH7.out (Touch.of_below (F:=[]) hb8) (by simp))
       have HT8:=Lib.hid (touch_later HT7.out hb8)
       clear hb8 b0 b1 p0 p1
       have b0:w8.cell? ⟨w4.heap.size,0,none⟩=some (.int .i64 h.edge):=World.rowIs.cell HH8.out (i:=0) (by decide)
       have b1:w8.cell? ⟨w4.heap.size,1,none⟩=some (.bool h.back):=World.rowIs.cell HH8.out (i:=1) (by decide)
       have bf:=fun i=>World.rowIs.frozen HH8.out i
       have hlt8:=World.rowIs.lt HH8.out
       go_wp2_with fail
       go_roundw
       case rel=>
        refine⟨_,R++[h],nextP p h,by rw[List.length_append];go_num,rfl,HO.out.step HR.out HNR.out, ?_,World.rowIs.congr (World.rowIs.set (World.rowIs.set HH8.out 0 _) 1 _) (fun i hi=>by rcases i with _|_|i<;>first|rfl|exact absurd hi (by omega)),(HT8.out.setCell (.inl (by simp)) _).setCell (.inl (by simp)) _⟩
        rw[List.length_append,hfC_app]
        exact ownsRow_touch HO8.out (((Touch.refl [w4.heap.size] w8).setCell (.inl (by simp)) _).setCell (.inl (by simp)) _) (fun q hq hm=>by have:=(HO8.out.lt q hq).1;simp at hm;omega)
       case measure=>simp[intOf];omega
      ·rw[hin2] at HHR
       have HRI:=Lib.hid (of_decide_eq_true hin2)
       clear hin2
       go_wp2_with fail
       refine HHR.out.mono ?_
       rintro e w6 ⟨rfl,hb6⟩
       have HT6:=Lib.hid (touch_later HT.out hb6)
       have HO6:=Lib.hid (ownsRow_touch HOW.out (Touch.of_below (F:=[]) hb6) (by simp))
       clear hb6 b0 b1 bf p0 p1
       have HIW:=Lib.hid (HI.out.box ((Touch.of_below (F:=[w4.heap.size]) HW2.out).trans HT6.out (fun b hb=> .inl hb)))
       have hpos:0<R.length:=List.length_pos_iff.2 (by intro e;have:=HRI.out;rw[e] at this;cases this)
       obtain⟨rg,rcap,eqs⟩:=ownsRow_form HO6.out hpos
       injection eqs with eq1 eq2 eq3
       subst eq1 eq3
       clear eq2
       have HMT:=Lib.hid (show w6.ownsRow w1.heap.size 91 2 (.slice ma m mc) m (hfC Mt) from by rw[HMM.out];exact HIW.out.met)
       have HSP:=Lib.hid (show∀z∈Z,(Value.slice ma m mc).ownBlock≠some z.1 from by rw[HMM.out];exact HIW.out.sep)
       have HMX:=Lib.hid (show∀g,(Value.slice ma m mc).ownBlock=some g→g<w4.heap.size from fun g hg=>by rw[HMM.out] at hg;exact(HI.out.met.lt g hg).2)
       have HRX:=Lib.hid (show W2.heap.size≤rg∧rg<w6.heap.size from HO6.out.lt rg rfl)
       have HLS:=Lib.hid (HO.out.s.len)
       have HLL:=Lib.hid (HI.out.s.len HR.out)
       go_wp2_with (first|(at_builtin;go_loud (refine wpList_append_near _ rfl (.tmp 47) (.tmp 48) 33 rfl w1.heap.size 91 i0 (.agg #[.int .i64 0, .bool false]) 2 16 Tryz.underlying33 hi hz0 hz1 hz2 rfl (by decide) (.slice ma m mc) m _ rfl HMT.out ⟨rg,0,none⟩ R.length rc (hfC R) rfl hpos (hfC_len R) (own_cells HO6.out) hfC_one (by have:=HLS.out;have:=HMM.out;have:=HML.out;unfold maxLen;omega) (by have:=HLS.out;have:=HMM.out;have:=HML.out;omega) HIW.out.blw.size ?_;intro g5 cap5 w9 hown hgr hat;have HM9:=Lib.hid hown;have kk:=Touch.of_grown hgr;have hs9:=kk.size;have HO9:=Lib.hid (ownsRow_touch HO6.out kk (fun q hq hm=>by have e:rg=q:=Option.some.inj hq;have h8:=HMX.out q (Option.mem_toList.1 hm);have:=HRX.out;have:=HW2.out.size;omega));have HU9:=Lib.hid (HIW.out.out.touch kk (fun g hg hm=>own_apart HIW.out.out.own HMT.out (by decide) hg (Option.mem_toList.1 hm)) (fun z hz hm=>HSP.out z hz (Option.mem_toList.1 hm)));have HS9:=Lib.hid (show(∀z∈Z,g5≠z.1)∧g5≠rg from⟨fun z hz e=>by rcases hat with h1|h1;exact HSP.out z hz (e▸h1);have:=HIW.out.out.lt hz;omega,fun e=>by rcases hat with h1|h1;have:=HMX.out _ h1;have:=HRX.out;omega;have:=HRX.out;omega⟩);have HB9:=Lib.hid (show Below w1.heap.size w1 w9 from HIW.out.blw.grown hgr HIW.out.blw.size (fun q hq=>(HMT.out.lt q hq).1));clear hown hgr hat kk))|(at_builtin;go_loud (refine wpList_append_near _ rfl (.tmp 50) (.tmp 52) 34 rfl w1.heap.size 33 j0 (.slice none 0 0) 1 24 Tryz.underlying34 hj0 hy0 hy1 hy2 rfl (by decide) ov L.length (ziv L Z) rfl (HU9.out.own.alloc _) ⟨w9.heap.size,0,none⟩ 1 1 [.slice (some ⟨rg,0,none⟩) R.length rc] rfl (by decide) rfl (cell_list_at _ [.slice (some ⟨rg,0,none⟩) R.length rc] _ rfl) (by simp[Value.oneCell']) (by have:=HLL.out;have:=HML.out;unfold maxLen;omega) (by have:=HLL.out;have:=HML.out;omega) (by have:=HB9.out.size;simp;omega) ?_;intro g7 cap7 w10 hown hgr hat;have HU10:=Lib.hid (HU9.out.add (g:=rg) (c:=rc) (R:=R) (by have h1:=HRX.out;have h2:=HI.out.blw.size;have h3:=HW2.out.size;omega) (by have:=HRX.out;omega) (own_hs HO9.out) (fun e=>by have:=(HI.out.out.own.lt rg e).2;have:=HRX.out;omega) hown hgr (fun b hb=>by cases hb;exact hat));have HM10:=Lib.hid (ownsRow_touch (HM9.out.alloc (.cells #[.slice (some ⟨rg,0,none⟩) R.length rc] 33)) (Touch.of_grown hgr) (fun q hq hm=>own_apart HU9.out.own HM9.out (by decide) (Option.mem_toList.1 hm) hq));have HB10:=Lib.hid (show Below w1.heap.size w1 w10 from(HB9.out.alloc HB9.out.size _).grown hgr (by have:=HB9.out.size;simp;omega) (fun q hq=>(HU9.out.own.lt q hq).1));clear hown hgr hat)))
       go_roundw
       case rel=>
        have hring:=HO.out.ring HR.out HRI.out
        have hs:=HI.out.s.step HXK.out HO.out.s (List.mem_append_right _ HRI.out)
        rw[if_neg hring.ne] at hs
        refine⟨k+1,_,_,L++[R],Z++[(rg,rc)],Mt++R,by omega,by go_num,rfl,rfl,hs,HI.out.pre.add HR.out hring,HU10.out, ?_,fun z hz e=> ?_,HB10.out⟩
        ·rw[List.length_append, ←HMM.out,hfC_app]
         exact HM10.out
        ·injection e with e
         rcases List.mem_append.1 hz with hz|hz
         ·exact HS9.out.1 z hz e
         ·simp at hz;subst hz;exact HS9.out.2 e
       case measure=>simp[intOf];omega
     ·have HRI:=Lib.hid (HO.out.full (by have:=HML.out;omega))
      clear b0 b1 bf p0 p1
      have HIW:=Lib.hid (HI.out.box ((Touch.of_below (F:=[w4.heap.size]) HW2.out).trans HT.out (fun b hb=> .inl hb)))
      have hpos:0<R.length:=List.length_pos_iff.2 (by intro e;have:=HRI.out;rw[e] at this;cases this)
      obtain⟨rg,rcap,eqs⟩:=ownsRow_form HOW.out hpos
      injection eqs with eq1 eq2 eq3
      subst eq1 eq3
      clear eq2
      have HMT:=Lib.hid (show wr.ownsRow w1.heap.size 91 2 (.slice ma m mc) m (hfC Mt) from by rw[HMM.out];exact HIW.out.met)
      have HSP:=Lib.hid (show∀z∈Z,(Value.slice ma m mc).ownBlock≠some z.1 from by rw[HMM.out];exact HIW.out.sep)
      have HMX:=Lib.hid (show∀g,(Value.slice ma m mc).ownBlock=some g→g<w4.heap.size from fun g hg=>by rw[HMM.out] at hg;exact(HI.out.met.lt g hg).2)
      have HRX:=Lib.hid (show W2.heap.size≤rg∧rg<wr.heap.size from HOW.out.lt rg rfl)
      have HLS:=Lib.hid (HO.out.s.len)
      have HLL:=Lib.hid (HI.out.s.len HR.out)
      go_wp2_with (first|(at_builtin;go_loud (refine wpList_append_near _ rfl (.tmp 47) (.tmp 48) 33 rfl w1.heap.size 91 i0 (.agg #[.int .i64 0, .bool false]) 2 16 Tryz.underlying33 hi hz0 hz1 hz2 rfl (by decide) (.slice ma m mc) m _ rfl HMT.out ⟨rg,0,none⟩ R.length rc (hfC R) rfl hpos (hfC_len R) (own_cells HOW.out) hfC_one (by have:=HLS.out;have:=HMM.out;have:=HML.out;unfold maxLen;omega) (by have:=HLS.out;have:=HMM.out;have:=HML.out;omega) HIW.out.blw.size ?_;intro g5 cap5 w9 hown hgr hat;have HM9:=Lib.hid hown;have kk:=Touch.of_grown hgr;have hs9:=kk.size;have HO9:=Lib.hid (ownsRow_touch HOW.out kk (fun q hq hm=>by have e:rg=q:=Option.some.inj hq;have h8:=HMX.out q (Option.mem_toList.1 hm);have:=HRX.out;have:=HW2.out.size;omega));have HU9:=Lib.hid (HIW.out.out.touch kk (fun g hg hm=>own_apart HIW.out.out.own HMT.out (by decide) hg (Option.mem_toList.1 hm)) (fun z hz hm=>HSP.out z hz (Option.mem_toList.1 hm)));have HS9:=Lib.hid (show(∀z∈Z,g5≠z.1)∧g5≠rg from⟨fun z hz e=>by rcases hat with h1|h1;exact HSP.out z hz (e▸h1);have:=HIW.out.out.lt hz;omega,fun e=>by rcases hat with h1|h1;have:=HMX.out _ h1;have:=HRX.out;omega;have:=HRX.out;omega⟩);have HB9:=Lib.hid (show Below w1.heap.size w1 w9 from HIW.out.blw.grown hgr HIW.out.blw.size (fun q hq=>(HMT.out.lt q hq).1));clear hown hgr hat kk))|(at_builtin;go_loud (refine wpList_append_near _ rfl (.tmp 50) (.tmp 52) 34 rfl w1.heap.size 33 j0 (.slice none 0 0) 1 24 Tryz.underlying34 hj0 hy0 hy1 hy2 rfl (by decide) ov L.length (ziv L Z) rfl (HU9.out.own.alloc _) ⟨w9.heap.size,0,none⟩ 1 1 [.slice (some ⟨rg,0,none⟩) R.length rc] rfl (by decide) rfl (cell_list_at _ [.slice (some ⟨rg,0,none⟩) R.length rc] _ rfl) (by simp[Value.oneCell']) (by have:=HLL.out;have:=HML.out;unfold maxLen;omega) (by have:=HLL.out;have:=HML.out;omega) (by have:=HB9.out.size;simp;omega) ?_;intro g7 cap7 w10 hown hgr hat;have HU10:=Lib.hid (HU9.out.add (g:=rg) (c:=rc) (R:=R) (by have h1:=HRX.out;have h2:=HI.out.blw.size;have h3:=HW2.out.size;omega) (by have:=HRX.out;omega) (own_hs HO9.out) (fun e=>by have:=(HI.out.out.own.lt rg e).2;have:=HRX.out;omega) hown hgr (fun b hb=>by cases hb;exact hat));have HM10:=Lib.hid (ownsRow_touch (HM9.out.alloc (.cells #[.slice (some ⟨rg,0,none⟩) R.length rc] 33)) (Touch.of_grown hgr) (fun q hq hm=>own_apart HU9.out.own HM9.out (by decide) (Option.mem_toList.1 hm) hq));have HB10:=Lib.hid (show Below w1.heap.size w1 w10 from(HB9.out.alloc HB9.out.size _).grown hgr (by have:=HB9.out.size;simp;omega) (fun q hq=>(HU9.out.own.lt q hq).1));clear hown hgr hat)))
      go_roundw
      case rel=>
       have hring:=HO.out.ring HR.out HRI.out
       have hs:=HI.out.s.step HXK.out HO.out.s (List.mem_append_right _ HRI.out)
       rw[if_neg hring.ne] at hs
       refine⟨k+1,_,_,L++[R],Z++[(rg,rc)],Mt++R,by omega,by go_num,rfl,rfl,hs,HI.out.pre.add HR.out hring,HU10.out, ?_,fun z hz e=> ?_,HB10.out⟩
       ·rw[List.length_append, ←HMM.out,hfC_app]
        exact HM10.out
       ·injection e with e
        rcases List.mem_append.1 hz with hz|hz
        ·exact HS9.out.1 z hz e
        ·simp at hz;subst hz;exact HS9.out.2 e
      case measure=>simp[intOf];omega
   ·rw[hin] at HHS
    have HII:=Lib.hid (of_decide_eq_true hin)
    clear hin
    go_wp2_with fail
    refine HHS.out.mono ?_
    rintro e w4 ⟨rfl,hb4⟩
    have HI4:=Lib.hid (HI.out.later hb4)
    clear hb4
    go_wp2_with fail
    go_roundw
    case rel=>
     have hs:=HI4.out.s.step HXK.out (OrbS.start HI4.out.s.nd HI4.out.s.mem HXM.out) (by simpa using HII.out)
     rw[if_pos rfl,List.append_nil] at hs
     exact⟨k+1,_,_,L,Z,Mt,by omega,by go_num,rfl,rfl,hs,HI4.out.pre,HI4.out.out,HI4.out.met,HI4.out.sep,HI4.out.blw⟩
    case measure=>simp[intOf];omega
  ·have hL:=HI.out.s
   obtain rfl:M=k:=by omega
   rw[HML.out] at hL
   have HD:=Lib.hid hL.done
   clear hL
   obtain⟨oa,oc,rfl⟩:=own_form HI.out.out.own
   have HRG:=Lib.hid (HI.out.out.in_ rfl)
   have HRU:=Lib.hid ((HI.out.out.out_ rfl).mono (show w.heap.size≤w1.heap.size from HX1.out.size))
   obtain⟨m,hml⟩: ∃m,m=L.length:=⟨_,rfl⟩
   rw[←hml] at HRG ⊢
   rw[HD.out] at HRG HRU
   clear hml HI
   go_wp2_with fail
   go_ret
   exact⟨⟨oa,m,oc,rfl,HRG.out,HRU.out⟩,HX.out⟩
end Go.Proofs.YthopjhifepijiaaGreat
