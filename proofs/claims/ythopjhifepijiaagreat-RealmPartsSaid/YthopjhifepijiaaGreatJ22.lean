/- Lemmas on the way to the statement. -/
import Derived.Test.YthopjhifepijiaaGreatJ20
import Derived.Test.YthopjhifepijiaaGreatJ21
set_option linter.unusedSimpArgs false
set_option linter.unusedVariables false
namespace Go.Proofs.YthopjhifepijiaaGreat
open Go.RowKit Go.Joins
theorem rmV_inner_len {p:PL} (g:Int→Int) (no:Int): ∀j i,(rmAt (rmV p g no j) i).inner.length≤(innersP p).length
 |0,i=>rmI_inner_len g _ i
 |j+1,i=>by
  have ih:=rmV_inner_len (p:=p) g no j i
  by_cases h:j<p.vs.length
  ·have hv:=List.getElem?_eq_getElem h
   cases hd:degB p.es (p.vs[j]).id
   ·rw[rmV_no hv hd];exact ih
   ·rw[rmV_yes hv hd]
    have hx:idxA p g no (p.vs[j]).at_<(rmV p g no j).length:=by rw[rmV_len];unfold idxA;exact(idx_lt g _ _).1
    rw[rmAt_addA _ _ _ _ hx]
    split<;>exact ih
  ·have e:rmV p g no (j+1)=rmV p g no j:=by unfold rmV;rw[List.take_of_length_le (by omega),List.take_of_length_le (by omega)]
   rw[e]
   exact ih
theorem RightP.lim {p:PL} (r:RightP p) (g:Int→Int) (no:Int):LimR (realmsP p g no)∧(realmsP p g no).length≤100000:=by
 have hne:=r.ne
 have hnv:=r.nv
 have hlen: ∀L∈ringsP p,L.length≤100000:=fun L hL=>by have:=ring_len r hL;omega
 have hf:=r.rings_few
 have ho:(outersP p).length≤(ringsP p).length:=List.length_filter_le _ _
 have hi:(innersP p).length≤(ringsP p).length:=List.length_filter_le _ _
 refine⟨fun x hx=> ?_,by rw[←rmV_done,rmV_len];omega⟩
 obtain⟨i,hxi⟩:=List.mem_iff_getElem?.1 hx
 have e:rmAt (realmsP p g no) i=x:=by unfold rmAt;rw[List.getD_eq_getElem?_getD,hxi];rfl
 have h1:=rmV_inner_len (p:=p) g no p.vs.length i
 have h2:=rmV_alone_len (p:=p) g no p.vs.length i
 rw[rmV_done,e] at h1 h2
 refine⟨?_,by omega,fun R hR=>hlen R (List.mem_filter.1 (realms_inner p g no x hx R hR)).1,by omega⟩
 have h3:x.outer∈[]::outersP p:=by rw[←realms_outer p g no];exact List.mem_map_of_mem hx
 rcases List.mem_cons.1 h3 with h3|h3
 ·rw[h3];simp
 ·exact hlen _ (List.mem_filter.1 h3).1
theorem NsIn.mono7 {w:World} {B B' n:Nat} {a:Option Addr} {l:List Int} (h:NsIn w B a n l) (k:B≤B'):NsIn w B' a n l:=⟨h.1,h.2.imp id (fun⟨b,off,e,hb,hs⟩=>⟨b,off,e,Nat.lt_of_lt_of_le hb k,hs⟩)⟩
theorem RmAtC.mono7 {w:World} {B B' b o:Nat} {r:RM} {oa ia la:Option Addr} {oc ic lc:Nat} (h:RmAtC w B b o r oa oc ia ic la lc) (k:B≤B'):RmAtC w B' b o r oa oc ia ic la lc:=⟨h.c0,h.c1,h.c2,h.outer.mono k,h.inner.mono k,h.alone.mono7 k⟩
theorem RlIn.mono7 {w:World} {B B' n:Nat} {a:Option Addr} {l:List RM} (h:RlIn w B a n l) (k:B≤B'):RlIn w B' a n l:=⟨h.1,h.2.imp id (fun⟨b,off,e,hb,hs⟩=>⟨b,off,e,Nat.lt_of_lt_of_le hb k,fun i r hi=>by
 obtain⟨oa,oc,ia,ic,la,lc,hh⟩:=hs i r hi
 exact⟨oa,oc,ia,ic,la,lc,hh.mono7 k⟩⟩)⟩
structure MS (w1 wr:World) (l:List RM) (k:Nat) (ov:Value) (xs:List Value):Prop where
 own:wr.ownsRow w1.heap.size 38 3 ov k xs
 rows: ∀(i:Nat) (r:RM),i<k→l[i]? =some r→ ∃oa oc ia ic la lc,xs[i*3]? =some (.slice oa r.outer.length oc)∧xs[i*3+1]? =some (.slice ia r.inner.length ic)∧xs[i*3+2]? =some (.slice la r.alone.length lc)∧HsIn w1 w1.heap.size oa r.outer.length r.outer∧RgIn w1 w1.heap.size ia r.inner.length r.inner∧NsIn w1 w1.heap.size la r.alone.length r.alone
 blw:Below w1.heap.size w1 wr
theorem MS.add {w1 wr wx w':World} {l:List RM} {k g2 cap2:Nat} {ov:Value} {xs:List Value} {r:RM} {b o oc ic lc:Nat} {oa ia la:Option Addr} (h:MS w1 wr l k ov xs) (hr:l[k]? =some r) (hc:RmAtC w1 w1.heap.size b o r oa oc ia ic la lc) (hb:Below wr.heap.size wr wx)
  (ho:w'.ownsRow w1.heap.size 38 3 (.slice (some ⟨g2,0,none⟩) (k+1) cap2) (k+1) (xs++[.slice oa r.outer.length oc, .slice ia r.inner.length ic, .slice la r.alone.length lc])) (hgr:wx.grownBy w' ov.ownBlock):
  MS w1 w' l (k+1) (.slice (some ⟨g2,0,none⟩) (k+1) cap2) (xs++[.slice oa r.outer.length oc, .slice ia r.inner.length ic, .slice la r.alone.length lc]):=by
 have t:=(Touch.of_below (F:=ov.ownBlock.toList) hb).trans (Touch.of_grown hgr) (fun x hx=> .inl hx)
 have hx:xs.length=k*3:=by have:=h.own.1;omega
 refine⟨ho,fun i s hi hs=> ?_,h.blw.trans (Touch.below t h.blw.size (fun q hq=>(h.own.lt q (Option.mem_toList.1 hq)).1))⟩
 by_cases e:i<k
 ·obtain⟨oa,oc,ia,ic,la,lc,h1,h2,h3,h4⟩:=h.rows i s e hs
  exact⟨oa,oc,ia,ic,la,lc,by rw[List.getElem?_append_left (by omega)];exact h1,by rw[List.getElem?_append_left (by omega)];exact h2,by rw[List.getElem?_append_left (by omega)];exact h3,h4⟩
 ·obtain rfl:i=k:=by omega
  rw[hr] at hs
  cases hs
  refine⟨oa,oc,ia,ic,la,lc, ?_, ?_, ?_,hc.outer,hc.inner,hc.alone⟩
  ·rw[List.getElem?_append_right (by omega),hx,Nat.sub_self];rfl
  ·rw[List.getElem?_append_right (by omega),hx,show i*3+1 - i*3=1 by omega];rfl
  ·rw[List.getElem?_append_right (by omega),hx,show i*3+2 - i*3=2 by omega];rfl
theorem MS.rl {w1 wr:World} {l:List RM} {n c:Nat} {a:Option Addr} {xs:List Value} (h:MS w1 wr l n (.slice a n c) xs) (hn:n=l.length):RlIn wr wr.heap.size a n l:=by
 refine⟨hn, ?_⟩
 rcases Nat.eq_zero_or_pos n with h0|h0
 ·exact .inl h0
 ·obtain⟨g,cap,e⟩:=ownsRow_form h.own h0
  injection e with e1 e2 e3
  subst e1
  refine .inr ⟨g,0,rfl,(h.own.lt g rfl).2,fun i r hi=> ?_⟩
  have hil:=(List.getElem?_eq_some_iff.1 hi).1
  obtain⟨oa,oc,ia,ic,la,lc,h1,h2,h3,h4,h5,h6⟩:=h.rows i r (by omega) hi
  have hc:=fun j u (hu:xs[j]? =some u)=>(addr_add0 g j)▸h.own.cells (g:=g) rfl (j:=j) (u:=u) hu
  simp only[Nat.zero_add]
  exact⟨oa,oc,ia,ic,la,lc,hc _ _ h1,hc _ _ h2,hc _ _ h3,(h4.below h.blw).mono h.blw.size,(h5.below h.blw).mono h.blw.size,(h6.below h.blw).mono7 h.blw.size⟩
theorem MS.later {w1 wr w5:World} {l:List RM} {k:Nat} {ov:Value} {xs:List Value} (h:MS w1 wr l k ov xs) (b:Below wr.heap.size wr w5):MS w1 w5 l k ov xs:=
 ⟨ownsRow_touch h.own (Touch.of_below (F:=[]) b) (by simp),h.rows,below_step b h.blw⟩
set_option maxRecDepth 100000 in
set_option maxHeartbeats 8000000 in
theorem realmParts_walk {w:World} {B vn vc en ec:Nat} {va ea:Option Addr} {p:PL} (hv:VsIn w B va vn p.vs) (he:EsIn w B ea en p.es) (hB:B≤w.heap.size) (hec:en≤ec) (hfit:FitPL p):
  Calls Tryz.prog 3 #[.agg #[.slice va vn vc, .slice ea en ec]] w fun e w'=>e= .returned (.bool true)∧Below w.heap.size w w':=by
 have HAW:=fun W=>Lib.hid (awake17_any W)
 have HFW:=fun W=>Lib.hid (few17_any W va ea vn vc en ec)
 by_cases hf:vn≤30∧en≤30
 rotate_left
 ·rw[decide_eq_false hf] at HFW
  clear hv he hf
  go_enter Tryz.func3,Tryz.ntmps3
  go_wp2_with fail
  first|refine wp_name (fun W hW=> ?_)|refine calls_name (fun W hW=> ?_)
  have HW:Hid (Below w.heap.size w W):=Lib.hid (by rw[←hW];repeat (first|exact Below.refl _ _|refine below_alloc ?_))
  have HWs:Hid (W.heap.size=w.heap.size+1):=Lib.hid (by rw[←hW];simp)
  have HBW:Hid (W.heap.size≤W.heap.size):=Lib.hid (by have:=HWs.out;omega)
  have HC:=fun(W1:World) (hb:Below (W.heap.size) W W1)=>Lib.hid (show W1.cell? ⟨w.heap.size,0,none⟩=some (.slice va vn vc)∧W1.cell? ⟨w.heap.size,1,none⟩=some (.slice ea en ec) from by have hs:=HWs.out;refine⟨?_, ?_⟩<;>(refine(hb.cell (by dsimp only;omega)).trans ?_;rw[←hW];clear hW;go_simp))
  have HB:=Lib.hid (Below.refl (W.heap.size) W)
  clear hW
  have HZ:=fun(W1:World) (hb:W.heap.size≤W1.heap.size)=>Lib.hid (show w.heap.size<W1.heap.size from by have:=HWs.out;omega)
  obtain⟨qx0,qx1⟩:=(HC _ HB.out).out
  have rx0:=(HZ _ HB.out.size).out
  refine((HFW _).out).mono ?_
  rintro e w1 ⟨rfl,hb2⟩
  have HB:=bnx HB HBW hb2
  clear qx0 qx1 rx0
  obtain⟨qx0,qx1⟩:=(HC _ HB.out).out
  clear hb2
  have rx0:=(HZ _ HB.out.size).out
  go_wp2_with fail
  refine((HAW _).out).mono ?_
  rintro e w2 ⟨rfl,hb3⟩
  have HB:=bnx HB HBW hb3
  clear qx0 qx1 rx0
  obtain⟨qx0,qx1⟩:=(HC _ HB.out).out
  clear hb3
  have rx0:=(HZ _ HB.out.size).out
  go_wp2_with fail
  go_ret
  exact⟨rfl,bfn HW HB⟩
 rw[decide_eq_true hf] at HFW
 have HPL:=fun W=>Lib.hid (plain17_any W va ea vn vc en ec)
 have HRT:=fun(W1:World) (hb:Below w.heap.size w W1)=>Lib.hid (r15right_any (w:=W1) (vc:=vc) (hv.below (hb.mono hB)) (he.below (hb.mono hB)) (Nat.le_trans hB hb.size) hec)
 cases hr:rightR p
 ·have HRE:=fun(W1:World) (hb:Below w.heap.size w W1)=>Lib.hid (Realms_no (w:=W1) (vc:=vc) (by rw[←rightR_eq];exact hr) (hv.below (hb.mono hB)) (he.below (hb.mono hB)) (Nat.le_trans hB hb.size) (by omega) (by omega) hec hfit)
  rw[hr] at HRT
  clear hv he hf hfit hr
  go_enter Tryz.func3,Tryz.ntmps3
  go_wp2_with fail
  first|refine wp_name (fun W hW=> ?_)|refine calls_name (fun W hW=> ?_)
  have HW:Hid (Below w.heap.size w W):=Lib.hid (by rw[←hW];repeat (first|exact Below.refl _ _|refine below_alloc ?_))
  have HWs:Hid (W.heap.size=w.heap.size+1):=Lib.hid (by rw[←hW];simp)
  have HBW:Hid (W.heap.size≤W.heap.size):=Lib.hid (by have:=HWs.out;omega)
  have HC:=fun(W1:World) (hb:Below (W.heap.size) W W1)=>Lib.hid (show W1.cell? ⟨w.heap.size,0,none⟩=some (.slice va vn vc)∧W1.cell? ⟨w.heap.size,1,none⟩=some (.slice ea en ec) from by have hs:=HWs.out;refine⟨?_, ?_⟩<;>(refine(hb.cell (by dsimp only;omega)).trans ?_;rw[←hW];clear hW;go_simp))
  have HB:=Lib.hid (Below.refl (W.heap.size) W)
  clear hW
  have HZ:=fun(W1:World) (hb:W.heap.size≤W1.heap.size)=>Lib.hid (show w.heap.size<W1.heap.size from by have:=HWs.out;omega)
  obtain⟨qx0,qx1⟩:=(HC _ HB.out).out
  have rx0:=(HZ _ HB.out.size).out
  refine((HFW _).out).mono ?_
  rintro e w1 ⟨rfl,hb6⟩
  have HB:=bnx HB HBW hb6
  clear qx0 qx1 rx0
  obtain⟨qx0,qx1⟩:=(HC _ HB.out).out
  clear hb6
  have rx0:=(HZ _ HB.out.size).out
  go_wp2_with fail
  refine((HPL _).out).mono ?_
  rintro e w2 ⟨rfl,hb7⟩
  have HB:=bnx HB HBW hb7
  clear qx0 qx1 rx0
  obtain⟨qx0,qx1⟩:=(HC _ HB.out).out
  clear hb7
  have rx0:=(HZ _ HB.out.size).out
  have HX2:=Lib.hid (HW.out.trans (HB.out.mono HW.out.size))
  go_wp2_with fail
  refine((HRE _ HX2.out).out).mono ?_
  rintro e w3 ⟨rfl,hb8⟩
  have HB:=bnx HB HBW hb8
  clear qx0 qx1 rx0
  obtain⟨qx0,qx1⟩:=(HC _ HB.out).out
  clear hb8
  have rx0:=(HZ _ HB.out.size).out
  have HX3:=Lib.hid (HW.out.trans (HB.out.mono HW.out.size))
  go_wp2_with fail
  refine((HRT _ HX3.out).out).mono ?_
  rintro e w4 ⟨rfl,hb9⟩
  have HB:=bnx HB HBW hb9
  clear qx0 qx1 rx0
  obtain⟨qx0,qx1⟩:=(HC _ HB.out).out
  clear hb9
  have rx0:=(HZ _ HB.out.size).out
  go_wp2_with fail
  refine((HAW _).out).mono ?_
  rintro e w5 ⟨rfl,hb10⟩
  have HB:=bnx HB HBW hb10
  clear qx0 qx1 rx0
  obtain⟨qx0,qx1⟩:=(HC _ HB.out).out
  clear hb10
  have rx0:=(HZ _ HB.out.size).out
  go_wp2_with fail
  go_ret
  exact⟨rfl,bfn HW HB⟩
 have r:=rightR_iff.1 hr
 obtain⟨l,hl⟩: ∃l,l=realmsP p (pieceR p) (-1):=⟨_,rfl⟩
 have HRE:=fun(W1:World) (hb:Below w.heap.size w W1)=>Lib.hid (show Calls Tryz.prog 8 #[.agg #[.slice va vn vc, .slice ea en ec]] W1 fun e w'=>(∃a n c,e= .returned (.slice a n c)∧RlIn w' w'.heap.size a n l)∧Below W1.heap.size W1 w' from
  (Realms_any (w:=W1) (vc:=vc) r (hv.below (hb.mono hB)) (he.below (hb.mono hB)) (Nat.le_trans hB hb.size) hec hfit).mono fun e w' ⟨g,a,n,c,h1,h2,h3,h4,h5⟩=>⟨⟨a,n,c,h1,by rw[hl, ←r.realms_agree h2 r.pieceR_fn h3 (fun id _=>pieceR_no id)];exact h4⟩,h5⟩)
 have HRD:=fun(W1:World) (hb:Below w.heap.size w W1)=>Lib.hid (r17realms_any (w:=W1) (vc:=vc) (ec:=ec) r (hv.below (hb.mono hB)) (he.below (hb.mono hB)) (Nat.le_trans hB hb.size) hec (by omega))
 have hlm:=r.lim (pieceR p) (-1)
 rw[hr] at HRT
 simp only[←hl] at HRD hlm
 have HLM:=Lib.hid hlm.1
 have hll:=hlm.2
 obtain⟨i0,hi,hz0,hz1,hz2⟩:=info_parts Tryz.infoRz
 clear hv he hf hfit hr hl r hlm
 go_enter Tryz.func3,Tryz.ntmps3
 go_wp2_with fail
 first|refine wp_name (fun W hW=> ?_)|refine calls_name (fun W hW=> ?_)
 have HW:Hid (Below w.heap.size w W):=Lib.hid (by rw[←hW];repeat (first|exact Below.refl _ _|refine below_alloc ?_))
 have HWs:Hid (W.heap.size=w.heap.size+1):=Lib.hid (by rw[←hW];simp)
 have HBW:Hid (W.heap.size≤W.heap.size):=Lib.hid (by have:=HWs.out;omega)
 have HC:=fun(W1:World) (hb:Below (W.heap.size) W W1)=>Lib.hid (show W1.cell? ⟨w.heap.size,0,none⟩=some (.slice va vn vc)∧W1.cell? ⟨w.heap.size,1,none⟩=some (.slice ea en ec) from by have hs:=HWs.out;refine⟨?_, ?_⟩<;>(refine(hb.cell (by dsimp only;omega)).trans ?_;rw[←hW];clear hW;go_simp))
 have HB:=Lib.hid (Below.refl (W.heap.size) W)
 clear hW
 have HZ:=fun(W1:World) (hb:W.heap.size≤W1.heap.size)=>Lib.hid (show w.heap.size<W1.heap.size from by have:=HWs.out;omega)
 obtain⟨qx0,qx1⟩:=(HC _ HB.out).out
 have rx0:=(HZ _ HB.out.size).out
 refine((HFW _).out).mono ?_
 rintro e w1 ⟨rfl,hb13⟩
 have HB:=bnx HB HBW hb13
 clear qx0 qx1 rx0
 obtain⟨qx0,qx1⟩:=(HC _ HB.out).out
 clear hb13
 have rx0:=(HZ _ HB.out.size).out
 go_wp2_with fail
 refine((HPL _).out).mono ?_
 rintro e w2 ⟨rfl,hb14⟩
 have HB:=bnx HB HBW hb14
 clear qx0 qx1 rx0
 obtain⟨qx0,qx1⟩:=(HC _ HB.out).out
 clear hb14
 have rx0:=(HZ _ HB.out.size).out
 have HX2:=Lib.hid (HW.out.trans (HB.out.mono HW.out.size))
 go_wp2_with fail
 refine((HRE _ HX2.out).out).mono ?_
 rintro e w3 ⟨⟨la,n,lc,rfl,hrl⟩,hb15⟩
 have HB:=bnx HB HBW hb15
 clear qx0 qx1 rx0
 obtain⟨qx0,qx1⟩:=(HC _ HB.out).out
 clear hb15
 have rx0:=(HZ _ HB.out.size).out
 have HN:=Lib.hid hrl.1
 have hnb:n≤100000:=by have:=hrl.1;omega
 have HRL:=Lib.hid hrl
 have HX3:=Lib.hid (HW.out.trans (HB.out.mono HW.out.size))
 clear hrl
 go_wp2_with fail
 refine((HRT _ HX3.out).out).mono ?_
 rintro e w4 ⟨rfl,hb16⟩
 have HB:=bnx HB HBW hb16
 clear qx0 qx1 rx0
 obtain⟨qx0,qx1⟩:=(HC _ HB.out).out
 have HRL4:=Lib.hid ((HRL.out.below hb16).mono7 (hb16).size)
 clear hb16
 have rx0:=(HZ _ HB.out.size).out
 clear hll
 go_wp2_with fail
 clear qx0 qx1 rx0
 go_loopw [4,5] (fun o v wr=> ∃(k:Nat) (ov:Value) (xs:List Value),k≤n∧v= .int .i64 k∧ov=o∧MS w4 wr l k ov xs) (fun _ v _=>n - (intOf v).toNat)
 case atStart=>exact⟨0,_,[],Nat.zero_le _,rfl,rfl,World.ownsRow_nil _ _ _ _,fun i r h=>absurd h (by omega),Below.refl _ _⟩
 case round=>
  obtain⟨k,ov,xs,hk,rfl,rfl,hI⟩:=hrel
  obtain⟨wq,rfl⟩: ∃x:World,x=wr:=⟨_,rfl⟩
  have HI:=Lib.hid hI
  have HB:=Lib.hid (HB.out.trans (hI.blw.mono HB.out.size))
  have HX:=Lib.hid (HW.out.trans (HB.out.mono HW.out.size))
  clear hI
  by_cases hlt:k<n
  ·obtain⟨r,hr⟩: ∃r,l[k]? =some r:=⟨_,List.getElem?_eq_getElem (by have:=HN.out;omega)⟩
   obtain⟨lb,loff,rfl,hlb,hcl⟩:=HRL4.out.row (by omega)
   obtain⟨oa,oc,ia,ic,na,nc,hat⟩:=hcl k r hr
   have HAT:=Lib.hid hat
   have HRK:=Lib.hid hr
   clear hcl hr hat
   go_wp2_with fail
   have HS0:=Lib.hid (Touch.refl ov.ownBlock.toList wq).drew
   have HOW:=Lib.hid (show wq.drew.ownsRow w4.heap.size 38 3 ov k xs from(HI.out.later (Below.refl wq.heap.size wq).drew).own)
   have HY:=fun(w':World) (t':Touch ov.ownBlock.toList wq w')=>Lib.hid (show w'.cell? ⟨lb,loff+k*3,none⟩=some (.slice oa r.outer.length oc)∧w'.cell? ⟨lb,loff+k*3+1,none⟩=some (.slice ia r.inner.length ic)∧w'.cell? ⟨lb,loff+k*3+1+1,none⟩=some (.slice na r.alone.length nc) from by
    have h:=HAT.out.below HI.out.blw hlb
    have hq:lb<wq.heap.size:=Nat.lt_of_lt_of_le hlb HI.out.blw.size
    have no:lb∉ov.ownBlock.toList:=fun hm=>by have:=(HI.out.own.lt lb (Option.mem_toList.1 hm)).1;omega
    exact⟨(t'.cell (p:=⟨lb,_,none⟩) hq no).trans h.c0,(t'.cell (p:=⟨lb,_,none⟩) hq no).trans h.c1,(t'.cell (p:=⟨lb,_,none⟩) hq no).trans h.c2⟩)
   have HSZ:=Lib.hid HI.out.blw.size
   refine wp_region_noPanic ?_
   refine wp_region_par3 19 19 (by kernel_rfl) (by kernel_rfl) (by simp) (by omega) (by kernel_rfl) (by kernel_rfl) (fun w':World=>Touch ov.ownBlock.toList wq w') ?_
   refine par3_move (v:= ?_) 0 (by simp only[zga,zgb,zgc];rfl) (by kernel_rfl) (by rfl) ?_ (fun _ _ _ h=>h) ?_
   rotate_left
   ·(intro w9;go_simp;try with_reducible rfl)
   simp only[Act.put,zpa,zpb,zpc]
   refine par3_move (v:= ?_) 1 (by simp only[zga,zgb,zgc];rfl) (by kernel_rfl) (by rfl) ?_ (fun _ _ _ h=>h) ?_
   rotate_left
   ·(intro w9;go_simp;try with_reducible rfl)
   simp only[Act.put,zpa,zpb,zpc]
   refine par3_move (v:= ?_) 2 (by simp only[zga,zgb,zgc];rfl) (by kernel_rfl) (by rfl) ?_ (fun _ _ _ h=>h) ?_
   rotate_left
   ·(intro w9;go_simp;try with_reducible rfl)
   simp only[Act.put,zpa,zpb,zpc]
   refine par3_move (v:= ?_) 3 (by simp only[zga,zgb,zgc];rfl) (by kernel_rfl) (by rfl) ?_ (fun _ _ _ h=>h) ?_
   rotate_left
   ·(intro w9;go_simp;try with_reducible rfl)
   simp only[Act.put,zpa,zpb,zpc]
   refine par3_move (v:= ?_) 4 (by simp only[zga,zgb,zgc];rfl) (by kernel_rfl) (by rfl) ?_ (fun _ _ _ h=>h) ?_
   rotate_left
   ·(intro w9;go_simp;try with_reducible rfl)
   simp only[Act.put,zpa,zpb,zpc]
   refine par3_read8 (v:= ?_) 5 (by simp only[zga,zgb,zgc];rfl) (by kernel_rfl) (by rfl) HS0.out ?_ (fun _ _ _ h=>h) ?_
   rotate_left
   ·(intro w9 hSw;obtain⟨y0,y1,y2⟩:=(HY w9 hSw).out;clear hSw;go_simp;try with_reducible rfl)
   simp only[Act.put,zpa,zpb,zpc]
   refine par3_move (v:= ?_) 6 (by simp only[zga,zgb,zgc];rfl) (by kernel_rfl) (by rfl) ?_ (fun _ _ _ h=>h) ?_
   rotate_left
   ·(intro w9;go_simp;try with_reducible rfl)
   simp only[Act.put,zpa,zpb,zpc]
   refine par3_move (v:= ?_) 7 (by simp only[zga,zgb,zgc];rfl) (by kernel_rfl) (by rfl) ?_ (fun _ _ _ h=>h) ?_
   rotate_left
   ·(intro w9;go_simp;try with_reducible rfl)
   simp only[Act.put,zpa,zpb,zpc]
   refine par3_move (v:= ?_) 8 (by simp only[zga,zgb,zgc];rfl) (by kernel_rfl) (by rfl) ?_ (fun _ _ _ h=>h) ?_
   rotate_left
   ·(intro w9;go_simp;try with_reducible rfl)
   simp only[Act.put,zpa,zpb,zpc]
   refine par3_move (v:= ?_) 9 (by simp only[zga,zgb,zgc];rfl) (by kernel_rfl) (by rfl) ?_ (fun _ _ _ h=>h) ?_
   rotate_left
   ·(intro w9;go_simp;try with_reducible rfl)
   simp only[Act.put,zpa,zpb,zpc]
   refine par3_read8 (v:= ?_) 10 (by simp only[zga,zgb,zgc];rfl) (by kernel_rfl) (by rfl) HS0.out ?_ (fun _ _ _ h=>h) ?_
   rotate_left
   ·(intro w9 hSw;obtain⟨y0,y1,y2⟩:=(HY w9 hSw).out;clear hSw;go_simp;try with_reducible rfl)
   simp only[Act.put,zpa,zpb,zpc]
   refine par3_move (v:= ?_) 11 (by simp only[zga,zgb,zgc];rfl) (by kernel_rfl) (by rfl) ?_ (fun _ _ _ h=>h) ?_
   rotate_left
   ·(intro w9;go_simp;try with_reducible rfl)
   simp only[Act.put,zpa,zpb,zpc]
   refine par3_move (v:= ?_) 12 (by simp only[zga,zgb,zgc];rfl) (by kernel_rfl) (by rfl) ?_ (fun _ _ _ h=>h) ?_
   rotate_left
   ·(intro w9;go_simp;try with_reducible rfl)
   simp only[Act.put,zpa,zpb,zpc]
   refine par3_move (v:= ?_) 13 (by simp only[zga,zgb,zgc];rfl) (by kernel_rfl) (by rfl) ?_ (fun _ _ _ h=>h) ?_
   rotate_left
   ·(intro w9;go_simp;try with_reducible rfl)
   simp only[Act.put,zpa,zpb,zpc]
   refine par3_move (v:= ?_) 14 (by simp only[zga,zgb,zgc];rfl) (by kernel_rfl) (by rfl) ?_ (fun _ _ _ h=>h) ?_
   rotate_left
   ·(intro w9;go_simp;try with_reducible rfl)
   simp only[Act.put,zpa,zpb,zpc]
   refine par3_read8 (v:= ?_) 15 (by simp only[zga,zgb,zgc];rfl) (by kernel_rfl) (by rfl) HS0.out ?_ (fun _ _ _ h=>h) ?_
   rotate_left
   ·(intro w9 hSw;obtain⟨y0,y1,y2⟩:=(HY w9 hSw).out;clear hSw;go_simp;try with_reducible rfl)
   simp only[Act.put,zpa,zpb,zpc]
   refine par3_move (v:= ?_) 16 (by simp only[zga,zgb,zgc];rfl) (by kernel_rfl) (by rfl) ?_ (fun _ _ _ h=>h) ?_
   rotate_left
   ·(intro w9;go_simp;try with_reducible rfl)
   simp only[Act.put,zpa,zpb,zpc]
   refine par3_nm (fun W8 hW8=> ?_)
   have HW8:=Lib.hid (show Below wq.heap.size wq wq.drew from(Below.refl wq.heap.size wq).drew)
   rw[←hW8] at HS0 HOW HW8
   clear hW8
   refine par3_one 17 (by simp only[zga,zgb,zgc];rfl) (by kernel_rfl) (by rfl) ?_
   refine owp_val (v:= ?_) (w1:= ?_) ?_ ?_
   rotate_left 2
   ·(go_simp;constructor<;>rfl)
   refine⟨fun s _=>s.alloc _, ?_⟩
   simp only[Act.put,zpa,zpb,zpc]
   refine par3_one 18 (by simp only[zga,zgb,zgc];rfl) (by kernel_rfl) (by rfl) ?_
   refine owp_append_near rfl (.tmp 28) (.tmp 45) 32 rfl w4.heap.size 38 i0 (.agg #[.slice none 0 0, .slice none 0 0, .slice none 0 0]) 3 72 Tryz.underlying32 hi hz0 hz1 hz2 rfl (by decide) ov k _ rfl (HOW.out.alloc _) ⟨W8.heap.size,0,none⟩ 1 1 [.slice oa r.outer.length oc, .slice ia r.inner.length ic, .slice na r.alone.length nc] rfl (by decide) rfl (cell_list_at _ [.slice oa r.outer.length oc, .slice ia r.inner.length ic, .slice na r.alone.length nc] _ rfl) (by intro u hu;simp at hu;rcases hu with rfl|rfl|rfl<;>rfl) (by unfold maxLen;omega) (by omega) (by have h1:=HSZ.out;have h2:=HS0.out.size;simp;omega) ?_
   intro g10 cap10 w10 hown hgr hat
   have HN9:=Lib.hid (HI.out.add HRK.out HAT.out (below_step (below_alloc (Below.refl W8.heap.size W8)) HW8.out) hown hgr)
   refine⟨fun s _=>s.trans (Touch.of_grown hgr) (fun b hb=> .inl hb), ?_⟩
   clear hown hgr hat
   simp only[Act.put,zpa,zpb,zpc]
   refine par3_tail _ (by simp only[List.drop_succ_cons,List.drop_zero];rfl) (by kernel_rfl) ?_
   go_wp2_with fail
   refine NoPanic.normal ?_
   go_wp2_with fail
   go_roundw
   case rel=>exact⟨k+1,_,_,by omega,by go_num,rfl,HN9.out⟩
   case measure=>simp[intOf];omega
  ·obtain⟨oa,oc,rfl⟩:=own_form HI.out.own
   have HNK:=Lib.hid (show k=l.length from by have:=HN.out;omega)
   have HM0:=Lib.hid (HI.out.rl HNK.out)
   obtain⟨qx0,qx1⟩:=(HC _ HB.out).out
   have rx0:=(HZ _ HB.out.size).out
   go_wp2_with fail
   refine((HAW _).out).mono ?_
   rintro e w6 ⟨rfl,hb18⟩
   have HB:=bnx HB HBW hb18
   clear qx0 qx1 rx0
   obtain⟨qx0,qx1⟩:=(HC _ HB.out).out
   have HM6:=Lib.hid ((HM0.out.below hb18).mono7 (hb18).size)
   clear hb18
   have rx0:=(HZ _ HB.out.size).out
   go_wp2_with fail
   have HX6:=Lib.hid (HW.out.trans (HB.out.mono HW.out.size))
   refine(HRD _ HX6.out).out.mono ?_
   rintro e w7 ⟨⟨da,dn,dc,rfl,hrd⟩,hb7⟩
   have HM7:=Lib.hid ((HM6.out.below hb7).mono7 hb7.size)
   have HX7:=Lib.hid (below_step hb7 HX6.out)
   obtain rfl:dn=k:=by have:=hrd.1;have:=HNK.out;omega
   have HSM:=Lib.hid (r17same_any (c:=oc) (d:=dc) HM7.out hrd (Nat.le_refl _) (by omega) HLM.out)
   clear hrd hb7
   clear qx0 qx1 rx0
   go_wp2_with fail
   refine HSM.out.mono ?_
   rintro e w8 ⟨rfl,hb8⟩
   have HX8:=Lib.hid (below_step hb8 HX7.out)
   clear hb8
   go_wp2_with fail
   go_ret
   exact⟨rfl,HX8.out⟩
end Go.Proofs.YthopjhifepijiaaGreat
