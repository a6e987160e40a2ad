/- Lemmas on the way to the statement. -/
import Derived.Test.YthopjhifepijiaaJ10
set_option linter.unusedSimpArgs false
set_option linter.unusedVariables false
namespace Go.Proofs.Ythopjhifepijiaa
open Go.RowKit Go.Joins
open Go.Maps (Keyed)
section
variable {w Wc wr w2 w':World} {g:Int→Int} {lo b0 bu bf mu bs gb cap:Nat} {vo vr vi:Value} {rms:List RM} {ous:List OU} {inns:List (List Hf)} {H VI VA:Nat→Value} {ZI:Nat→List Value} {Y:Nat→Value} {Zn:List Value}
theorem RS.rebase (h:RS w Wc wr g lo b0 bu bf mu bs vo vr vi rms ous inns H (fun _=> .slice none 0 0) (fun _=> .slice none 0 0) ZI Y Zn) {bs':Nat} (hb:Wc.heap.size≤bs'):RS w Wc wr g lo b0 bu bf mu bs' vo vr vi rms ous inns H (fun _=> .slice none 0 0) (fun _=> .slice none 0 0) ZI Y Zn:=
 ⟨h.k,h.rl.rebase hb,h.ob,h.ou,h.io,h.ih,fun b i c _ hc=>(by cases hc),h.fd,h.tch⟩
theorem RS.addI (h:RS w Wc wr g lo b0 bu bf mu bs (.slice (some ⟨gb,0,none⟩) rms.length cap) vr vi rms ous inns H VI VA ZI Y Zn) {i:Nat} (hi:i<rms.length) {L:List Hf} {z:Value} {g2 cap2:Nat} (hz:HdR lo Wc.heap.size wr z L) (b:Below wr.heap.size wr w2)
  (ho:w'.ownsRow bs 33 1 (.slice (some ⟨g2,0,none⟩) ((ZI i).length+1) cap2) ((ZI i).length+1) (ZI i++[z])) (k:w2.grownBy w' (VI i).ownBlock) (hat:(VI i).ownBlock=some g2∨w2.heap.size≤g2):
  RS w Wc (w'.setCell ⟨gb,i*3+1,none⟩ (.slice (some ⟨g2,0,none⟩) ((ZI i).length+1) cap2)) g lo b0 bu bf mu bs (.slice (some ⟨gb,0,none⟩) rms.length cap) vr vi (addI rms i L) ous inns H (upd VI i (.slice (some ⟨g2,0,none⟩) ((ZI i).length+1) cap2)) VA (upd ZI i (ZI i++[z])) Y Zn:=by
 have k1:=(Touch.of_below (F:=(VI i).ownBlock.toList) b).trans (Touch.of_grown k) (fun x hx=> .inl hx)
 have hF:RF Wc b0 (VI i).ownBlock.toList:=fun q hq=> .inr (Nat.le_trans h.rl.le ((h.rl.fi.own i).lt q (Option.mem_toList.1 hq)).1)
 have hgb:=h.ob gb rfl
 have hG:RF Wc b0 [gb]:=fun q hq=>by simp at hq;subst hq;exact hgb
 have row1:=ownsRow_touch h.rl.row k1 (fun x hx=>by cases hx;exact fun hm=>own_apart h.rl.row (h.rl.fi.own i) (by decide) (g:=gb) rfl (Option.mem_toList.1 hm))
 have k2:Touch [gb] w' (w'.setCell ⟨gb,i*3+1,none⟩ (.slice (some ⟨g2,0,none⟩) ((ZI i).length+1) cap2)):=(Touch.refl _ _).setCell (.inl (by simp)) _
 have hs1:Wc.heap.size≤w'.heap.size:=Nat.le_trans h.size k1.size
 have io1:=ownsRow_touch h.io k1 (fun q hq hm=>h.ib q i q hq (Option.mem_toList.1 hm) rfl)
 have ou1:=h.ou.other k1 (h.rl.fi.own i) (by decide) (by decide)
 have hbz:=b.size
 obtain⟨up,hf,hr⟩:=h.fdT hF k1
 have kk:=h.k
 have no: ∀q,q<lo→q≠b0→q∉ [gb]:=fun q hq hne hm=>by
  simp at hm;subst hm
  rcases hgb with e|e
  ·exact hne e
  ·have:=kk.le;omega
 refine⟨h.k,h.rl.addI hi hz h.size b ho k hat (by decide) (by decide) (by decide) (hgb.imp (fun e=>by rw[e];exact h.k.up.2.2.2) id),h.ob,ou1.other (x:= .slice (some ⟨gb,0,none⟩) rms.length cap) k2 row1 (by decide) (by decide),ownsRow_touch io1 k2 (fun q hq hm=>by simp at hm;subst hm;exact own_apart io1 row1 (by decide) hq rfl),(h.ih.touch k1 h.size (h.hF hF)).touch k2 hs1 (h.hF hG),fun q j c hq hc=> ?_,⟨up,hf.touch k2 (no _ kk.up.1 kk.ne.1) (no _ kk.up.2.1 kk.ne.2.1) (no _ kk.up.2.2.1 kk.ne.2.2.1),hr⟩,(h.tchT hF k1).trans k2 (fun q hq=>(hG q hq).imp (fun e=>by simp[e]) id)⟩
 unfold upd at hc
 by_cases e:j=i
 ·rw[if_pos e] at hc
  cases hc
  rcases hat with e2|e2
  ·exact h.ib q i _ hq e2
  ·have:=(h.io.lt q hq).2
   show q≠g2
   omega
 ·rw[if_neg e] at hc
  exact h.ib q j c hq hc
theorem RS.addA (h:RS w Wc wr g lo b0 bu bf mu bs (.slice (some ⟨gb,0,none⟩) rms.length cap) vr vi rms ous inns H VI VA ZI Y Zn) {i:Nat} (hi:i<rms.length) {id:Int} {g2 cap2:Nat} (b:Below wr.heap.size wr w2)
  (ho:w'.ownsRow bs 3 1 (.slice (some ⟨g2,0,none⟩) ((rmAt rms i).alone.length+1) cap2) ((rmAt rms i).alone.length+1) ((rmAt rms i).alone.map (Value.int .i64)++[.int .i64 id])) (k:w2.grownBy w' (VA i).ownBlock) (hat:(VA i).ownBlock=some g2∨w2.heap.size≤g2):
  RS w Wc (w'.setCell ⟨gb,i*3+2,none⟩ (.slice (some ⟨g2,0,none⟩) ((rmAt rms i).alone.length+1) cap2)) g lo b0 bu bf mu bs (.slice (some ⟨gb,0,none⟩) rms.length cap) vr vi (addA rms i id) ous inns H VI (upd VA i (.slice (some ⟨g2,0,none⟩) ((rmAt rms i).alone.length+1) cap2)) ZI Y Zn:=by
 have k1:=(Touch.of_below (F:=(VA i).ownBlock.toList) b).trans (Touch.of_grown k) (fun x hx=> .inl hx)
 have hF:RF Wc b0 (VA i).ownBlock.toList:=fun q hq=> .inr (Nat.le_trans h.rl.le ((h.rl.fa.own i).lt q (Option.mem_toList.1 hq)).1)
 have hgb:=h.ob gb rfl
 have hG:RF Wc b0 [gb]:=fun q hq=>by simp at hq;subst hq;exact hgb
 have row1:=ownsRow_touch h.rl.row k1 (fun x hx=>by cases hx;exact fun hm=>own_apart h.rl.row (h.rl.fa.own i) (by decide) (g:=gb) rfl (Option.mem_toList.1 hm))
 have k2:Touch [gb] w' (w'.setCell ⟨gb,i*3+2,none⟩ (.slice (some ⟨g2,0,none⟩) ((rmAt rms i).alone.length+1) cap2)):=(Touch.refl _ _).setCell (.inl (by simp)) _
 have hs1:Wc.heap.size≤w'.heap.size:=Nat.le_trans h.size k1.size
 have io1:=ownsRow_touch h.io k1 (fun q hq hm=>own_apart h.io (h.rl.fa.own i) (by decide) hq (Option.mem_toList.1 hm))
 have ou1:=h.ou.other k1 (h.rl.fa.own i) (by decide) (by decide)
 obtain⟨up,hf,hr⟩:=h.fdT hF k1
 have kk:=h.k
 have no: ∀q,q<lo→q≠b0→q∉ [gb]:=fun q hq hne hm=>by
  simp at hm;subst hm
  rcases hgb with e|e
  ·exact hne e
  ·have:=kk.le;omega
 exact⟨h.k,h.rl.addA hi h.size b ho k hat (by decide) (by decide) (by decide) (hgb.imp (fun e=>by rw[e];exact h.k.up.2.2.2) (fun h=>h)),h.ob,ou1.other (x:= .slice (some ⟨gb,0,none⟩) rms.length cap) k2 row1 (by decide) (by decide),ownsRow_touch io1 k2 (fun q hq hm=>by simp at hm;subst hm;exact own_apart io1 row1 (by decide) hq rfl),(h.ih.touch k1 h.size (h.hF hF)).touch k2 hs1 (h.hF hG),h.ib,⟨up,hf.touch k2 (no _ kk.up.1 kk.ne.1) (no _ kk.up.2.1 kk.ne.2.1) (no _ kk.up.2.2.1 kk.ne.2.2.1),hr⟩,(h.tchT hF k1).trans k2 (fun q hq=>(hG q hq).imp (fun e=>by simp[e]) (fun h=>h))⟩
end
section
variable {p:PL}
def idxI (p:PL) (g:Int→Int) (L:List Hf):Nat:=(1+aroundP ((orsP p).map (ouOf g)) (leastPt p L) (g (frA p L))).toNat
def idxA (p:PL) (g:Int→Int) (q:Pt):Nat:=(1+aroundP ((orsP p).map (ouOf g)) q 0).toNat
def rmI (p:PL) (g:Int→Int) (j:Nat):List RM:=((innersP p).take j).foldl (fun l L=>addI l (idxI p g L) L) (base17 p)
def rmV (p:PL) (g:Int→Int) (j:Nat):List RM:=((p.vs.take j).filter fun v=>degB p.es v.id).foldl (fun l v=>addA l (idxA p g v.at_) v.id) (rmI p g (innersP p).length)
theorem rmI_succ {g:Int→Int} {j:Nat} {L:List Hf} (h:(innersP p)[j]? =some L):rmI p g (j+1)=addI (rmI p g j) (idxI p g L) L:=by unfold rmI;rw[take_snoc' h,List.foldl_append];rfl
theorem rmI_len (g:Int→Int): ∀j,(rmI p g j).length=(outersP p).length+1
 |0=>by simp[rmI,base17]
 |j+1=>by
  by_cases h:j<(innersP p).length
  ·rw[rmI_succ (List.getElem?_eq_getElem h),len_addI,rmI_len g j]
  ·have e:rmI p g (j+1)=rmI p g j:=by unfold rmI;rw[List.take_of_length_le (by omega),List.take_of_length_le (by omega)]
   rw[e,rmI_len g j]
theorem rmV_yes {g:Int→Int} {j:Nat} {v:Vx} (h:p.vs[j]? =some v) (hd:degB p.es v.id=true):rmV p g (j+1)=addA (rmV p g j) (idxA p g v.at_) v.id:=by
 unfold rmV
 rw[take_snoc' h,List.filter_append,List.foldl_append]
 simp[hd]
theorem rmV_no {g:Int→Int} {j:Nat} {v:Vx} (h:p.vs[j]? =some v) (hd:degB p.es v.id=false):rmV p g (j+1)=rmV p g j:=by
 unfold rmV
 rw[take_snoc' h,List.filter_append,List.foldl_append]
 simp[hd]
theorem rmV_len (g:Int→Int): ∀j,(rmV p g j).length=(outersP p).length+1
 |0=>by simp[rmV,rmI_len]
 |j+1=>by
  by_cases h:j<p.vs.length
  ·cases hd:degB p.es p.vs[j].id
   ·rw[rmV_no (List.getElem?_eq_getElem h) hd,rmV_len g j]
   ·rw[rmV_yes (List.getElem?_eq_getElem h) hd,len_addA,rmV_len g j]
  ·have e:rmV p g (j+1)=rmV p g j:=by unfold rmV;rw[List.take_of_length_le (by omega),List.take_of_length_le (by omega)]
   rw[e,rmV_len g j]
theorem rmV_done (g:Int→Int):rmV p g p.vs.length=realmsP p g 0:=by
 unfold rmV rmI realmsP
 rw[List.take_length,List.take_length]
 rfl
theorem idx_lt (g:Int→Int) (q:Pt) (b:Int):(1+aroundP ((orsP p).map (ouOf g)) q b).toNat<(outersP p).length+1∧(((1+aroundP ((orsP p).map (ouOf g)) q b).toNat:Nat):Int)=1+aroundP ((orsP p).map (ouOf g)) q b:=by
 have h:=around_bd ((orsP p).map (ouOf g)) q b
 have e:((orsP p).map (ouOf g)).length=(outersP p).length:=by simp[orsP]
 rw[e] at h
 omega
def leastK (p:PL) (L:List Hf) (t:Nat):Pt:=(L.take t).foldl (fun m h=>if lessB (ptH p h) m=true then ptH p h else m) (ptH p (headH L))
theorem leastK_succ {L:List Hf} {t:Nat} {h:Hf} (hh:L[t]? =some h):leastK p L (t+1)=if lessB (ptH p h) (leastK p L t)=true then ptH p h else leastK p L t:=by unfold leastK;rw[take_snoc' hh,List.foldl_append];rfl
theorem leastK_in (r:RightP p) {L:List Hf} (hm: ∀x∈L,x∈halvesE p.es) (hh:headH L∈halvesE p.es): ∀t,inB (leastK p L t)=true
 |0=>by simpa[leastK] using (r.half_pts hh).1
 |t+1=>by
  by_cases h:t<L.length
  ·rw[leastK_succ (List.getElem?_eq_getElem h)]
   split
   ·exact(r.half_pts (hm _ (List.getElem_mem h))).1
   ·exact leastK_in r hm hh t
  ·have e:leastK p L (t+1)=leastK p L t:=by unfold leastK;rw[List.take_of_length_le (by omega),List.take_of_length_le (by omega)]
   rw[e]
   exact leastK_in r hm hh t
theorem RightP.ous_ok (r:RightP p) (g:Int→Int): ∀o∈(orsP p).map (ouOf g),OuOk o:=fun o ho=>by
 unfold orsP at ho
 rw[List.map_map] at ho
 obtain⟨L,hL,rfl⟩:=List.mem_map.1 ho
 have hR:=(List.mem_filter.1 hL).1
 obtain⟨x,m,hring⟩:=r.rings.1 L hR
 have hi:=r.lines_in (fun y hy=>(hring.mem y hy).1)
 have hl:L.length≤2048:=by
  have h1:=nodup_len hring.nd (fun y hy=>(hring.mem y hy).1)
  rw[halves_len] at h1
  have:=r.ne
  omega
 exact⟨area_fits hi (by rw[List.length_map];omega),hi,by show(L.map (lineH p)).length≤_;rw[List.length_map];omega⟩
theorem deg_zero (es:List Ed) (id:Int):(deg es id=0)↔degB es id=true:=by
 unfold deg degB
 have key: ∀k,k≤es.length→(degA es id k=0↔ ∀i e,i<k→es[i]? =some e→e.a≠id∧e.b≠id):=by
  intro k
  induction k with
  |zero=>intro _;simp[degA]
  |succ k ih=>
   intro hk
   have h1:=degA_bd es id k
   have hx:=List.getElem?_eq_getElem (l:=es) (i:=k) (by omega)
   rw[degA_succ,hx]
   simp only
   constructor
   ·intro h
    have h2:degA es id k=0:=by split at h<;>split at h<;>omega
    intro i e hi he
    by_cases e1:i=k
    ·subst e1
     rw[hx] at he
     cases he
     constructor
     ·intro e3;rw[if_pos e3] at h;split at h<;>omega
     ·intro e3;rw[if_pos e3] at h;split at h<;>omega
    ·exact(ih (by omega)).1 h2 i e (by omega) he
   ·intro h
    have h2:=(ih (by omega)).2 (fun i e hi he=>h i e (by omega) he)
    have h3:=h k _ (by omega) hx
    rw[h2,if_neg h3.1,if_neg h3.2]
    rfl
 rw[key _ (Nat.le_refl _),Bool.not_eq_true',List.any_eq_false]
 constructor
 ·intro h e he
  obtain⟨i,hi⟩:=List.mem_iff_getElem?.1 he
  have:=h i e (List.getElem?_eq_some_iff.1 hi).1 hi
  simp[this.1,this.2]
 ·intro h i e _ hi
  have:=h e (List.mem_of_getElem? hi)
  simpa using this
end
end Go.Proofs.Ythopjhifepijiaa
namespace Go.Proofs.Ythopjhifepijiaa
open Go.RowKit Go.Joins
def NsIn (w:World) (B:Nat) (a:Option Addr) (n:Nat) (l:List Int):Prop:=n=l.length∧(n=0∨ ∃b off,a=some ⟨b,off,none⟩∧b<B∧ ∀(i:Nat) (v:Int),l[i]? =some v→w.cell? ⟨b,off+i,none⟩=some (.int .i64 v))
theorem NsIn.below {w w':World} {B:Nat} {a:Option Addr} {n:Nat} {l:List Int} (h:NsIn w B a n l) (k:Below B w w'):NsIn w' B a n l:=by
 obtain⟨h1,h2|⟨b,off,ha,hlt,hc⟩⟩:=h
 ·exact⟨h1, .inl h2⟩
 ·exact⟨h1, .inr ⟨b,off,ha,hlt,fun i v hv=>(k.cell (p:=⟨b,_,none⟩) hlt).trans (hc i v hv)⟩⟩
theorem NsIn.at_ {w:World} {B:Nat} {a:Option Addr} {n:Nat} {l:List Int} (h:NsIn w B a n l) {k:Nat} (hk:k<n): ∃b off x,a=some ⟨b,off,none⟩∧b<B∧l[k]? =some x∧w.cell? ⟨b,off+k,none⟩=some (.int .i64 x):=by
 obtain⟨h1,h2|⟨b,off,ha,hlt,hc⟩⟩:=h
 ·omega
 ·have hv:=List.getElem?_eq_getElem (l:=l) (i:=k) (by omega)
  exact⟨b,off,_,ha,hlt,hv,hc k _ hv⟩
structure RmAtC (w:World) (B b o:Nat) (r:RM) (oa:Option Addr) (oc:Nat) (ia:Option Addr) (ic:Nat) (la:Option Addr) (lc:Nat):Prop where
 c0:w.cell? ⟨b,o,none⟩=some (.slice oa r.outer.length oc)
 c1:w.cell? ⟨b,o+1,none⟩=some (.slice ia r.inner.length ic)
 c2:w.cell? ⟨b,o+1+1,none⟩=some (.slice la r.alone.length lc)
 outer:HsIn w B oa r.outer.length r.outer
 inner:RgIn w B ia r.inner.length r.inner
 alone:NsIn w B la r.alone.length r.alone
def RlIn (w:World) (B:Nat) (a:Option Addr) (n:Nat) (l:List RM):Prop:=n=l.length∧(n=0∨ ∃b off,a=some ⟨b,off,none⟩∧b<B∧ ∀(i:Nat) (r:RM),l[i]? =some r→ ∃oa oc ia ic la lc,RmAtC w B b (off+i*3) r oa oc ia ic la lc)
theorem RgIn.below' {w w':World} {B:Nat} {a:Option Addr} {n:Nat} {L:List (List Hf)} (h:RgIn w B a n L) (k:Below B w w'):RgIn w' B a n L:=by
 obtain⟨h1,h2|⟨b,off,ha,hlt,hc⟩⟩:=h
 ·exact⟨h1, .inl h2⟩
 ·exact⟨h1, .inr ⟨b,off,ha,hlt,fun i R hR=>by
   obtain⟨a',c,e1,e2⟩:=hc i R hR
   exact⟨a',c,(k.cell (p:=⟨b,_,none⟩) hlt).trans e1,e2.below k⟩⟩⟩
theorem RmAtC.below {w w':World} {B b o:Nat} {r:RM} {oa ia la:Option Addr} {oc ic lc:Nat} (h:RmAtC w B b o r oa oc ia ic la lc) (k:Below B w w') (hb:b<B):RmAtC w' B b o r oa oc ia ic la lc:=
 ⟨(k.cell (p:=⟨b,_,none⟩) hb).trans h.c0,(k.cell (p:=⟨b,_,none⟩) hb).trans h.c1,(k.cell (p:=⟨b,_,none⟩) hb).trans h.c2,h.outer.below k,h.inner.below' k,h.alone.below k⟩
theorem RlIn.below {w w':World} {B:Nat} {a:Option Addr} {n:Nat} {l:List RM} (h:RlIn w B a n l) (k:Below B w w'):RlIn w' B a n l:=by
 obtain⟨h1,h2|⟨b,off,ha,hlt,hc⟩⟩:=h
 ·exact⟨h1, .inl h2⟩
 ·exact⟨h1, .inr ⟨b,off,ha,hlt,fun i r hr=>by
   obtain⟨oa,oc,ia,ic,la,lc,hh⟩:=hc i r hr
   exact⟨oa,oc,ia,ic,la,lc,hh.below k hlt⟩⟩⟩
theorem RlIn.at_ {w:World} {B:Nat} {a:Option Addr} {n:Nat} {l:List RM} (h:RlIn w B a n l) {k:Nat} (hk:k<n): ∃b off r oa oc ia ic la lc,a=some ⟨b,off,none⟩∧b<B∧l[k]? =some r∧RmAtC w B b (off+k*3) r oa oc ia ic la lc:=by
 obtain⟨h1,h2|⟨b,off,ha,hlt,hc⟩⟩:=h
 ·omega
 ·have hv:=List.getElem?_eq_getElem (l:=l) (i:=k) (by omega)
  obtain⟨oa,oc,ia,ic,la,lc,hh⟩:=hc k _ hv
  exact⟨b,off,_,oa,oc,ia,ic,la,lc,ha,hlt,hv,hh⟩
theorem HdR.in_ {lo hi:Nat} {w:World} {x:Value} {R:List Hf} (h:HdR lo hi w x R) (hw:hi≤w.heap.size): ∃a c,x= .slice a R.length c∧HsIn w w.heap.size a R.length R:=by
 rcases h with ⟨rfl,rfl⟩|⟨g,c,rfl,h1,h2,hs⟩
 ·exact⟨none,0,rfl,rfl, .inl rfl⟩
 ·exact⟨_,_,rfl,rfl, .inr ⟨g,0,rfl,by omega,hs⟩⟩
theorem RlM.in_ {tR tS tI:TypeId} {lo hi bs:Nat} {w:World} {a:Option Addr} {n c:Nat} {l:List RM} {H VI VA:Nat→Value} {ZI:Nat→List Value} (h:RlM tR tS tI lo hi bs w (.slice a n c) l H VI VA ZI) (hn:n=l.length) (hw:hi≤w.heap.size):RlIn w w.heap.size a n l:=by
 subst hn
 refine⟨rfl, ?_⟩
 rcases Nat.eq_zero_or_pos l.length with h0|h0
 ·exact .inl h0
 ·obtain⟨g,cap,e⟩:=ownsRow_form h.row h0
  injection e with e1 e2 e3
  subst e1
  refine .inr ⟨g,0,rfl,(h.row.lt g rfl).2,fun i r hi'=> ?_⟩
  have hil:=(List.getElem?_eq_some_iff.1 hi').1
  have e4:rmAt l i=r:=by unfold rmAt;rw[List.getD_eq_getElem?_getD,hi'];rfl
  have hc:=fun j u (hu:([H i,VI i,VA i]:List Value)[j]? =some u)=>(addr_add0 g (i*3+j))▸h.row.cells (g:=g) rfl (j:=i*3+j) (u:=u) (flatMap_get (n:=3) (f:=fun i=>[H i,VI i,VA i]) (fun _=>rfl) (List.range l.length) i j i u (by rw[List.getElem?_range hil]) hu)
  obtain⟨oa,oc,hH,ho⟩:=(h.hd i hil).in_ hw
  obtain⟨ia,ic,hI⟩:=own_form (h.fi.own i)
  obtain⟨la,lc,hA⟩:=own_form (h.fa.own i)
  have hz:=h.hin i
  rw[e4] at hH ho hz
  have hfa:=h.fa.own i
  have hfi:=h.fi.own i
  simp only[e4] at hA hfa
  rw[hz.1] at hI
  rw[hI,hz.1] at hfi
  rw[hA] at hfa
  simp only[Nat.zero_add]
  refine⟨oa,oc,ia,ic,la,lc, ?_, ?_, ?_,ho,⟨rfl, ?_⟩,⟨rfl, ?_⟩⟩
  ·exact hH▸hc 0 _ rfl
  ·exact hI▸hc 1 _ rfl
  ·exact hA▸hc 2 _ rfl
  ·rcases Nat.eq_zero_or_pos r.inner.length with k0|k0
   ·exact .inl k0
   ·obtain⟨q,cq,e⟩:=ownsRow_form hfi k0
    injection e with e1 e2 e3
    subst e1
    refine .inr ⟨q,0,rfl,(hfi.lt q rfl).2,fun j R hR=> ?_⟩
    have hjl:=(List.getElem?_eq_some_iff.1 hR).1
    have hzj:=List.getElem?_eq_getElem (l:=ZI i) (i:=j) (by rw[hz.1];exact hjl)
    obtain⟨xa,xc,ex,hx⟩:=(hz.2 j _ R hzj hR).in_ hw
    refine⟨xa,xc, ?_,hx⟩
    rw[Nat.zero_add]
    exact(addr_add0 q j)▸hfi.cells (g:=q) rfl (j:=j) (u:=_) (ex▸hzj)
  ·rcases Nat.eq_zero_or_pos r.alone.length with k0|k0
   ·exact .inl k0
   ·obtain⟨q,cq,e⟩:=ownsRow_form hfa k0
    injection e with e1 e2 e3
    subst e1
    refine .inr ⟨q,0,rfl,(hfa.lt q rfl).2,fun j v hv=> ?_⟩
    rw[Nat.zero_add]
    exact(addr_add0 q j)▸hfa.cells (g:=q) rfl (j:=j) (u:= .int .i64 v) (by rw[List.getElem?_map,hv];rfl)
theorem RightP.id_pos {p:PL} (r:RightP p) {id:Int} (h:IsV p id):0<id:=by
 obtain⟨v,hv,rfl⟩:=h
 obtain⟨i,hi⟩:=List.mem_iff_getElem?.1 hv
 have key: ∀i,i≤p.vs.length→0≤pid p.vs i:=by
  intro i
  induction i with
  |zero=>intro _;exact Int.le_refl _
  |succ k ih=>
   intro hk
   have hx:=List.getElem?_eq_getElem (l:=p.vs) (i:=k) (by omega)
   have h1:=(r.v k _ hx).rise
   have h2:=ih (by omega)
   show 0≤((p.vs[k]?).map (·.id)).getD 0
   rw[hx]
   show 0≤(p.vs[k]).id
   omega
 have:=(r.v i v hi).rise
 have:=key i (Nat.le_of_lt (List.getElem?_eq_some_iff.1 hi).1)
 omega
theorem RightP.conn_isV {p:PL} (r:RightP p) {a b:Int} (h:Conn (pairsE p.es) a b) (ha:IsV p a):IsV p b:=by
 induction h with
 |refl=>exact ha
 |fwd _ he _=>
  obtain⟨e,hm,h⟩:=List.mem_map.1 he
  cases h
  exact(r.isV_a hm).2
 |bwd _ he _=>
  obtain⟨e,hm,h⟩:=List.mem_map.1 he
  cases h
  exact(r.isV_a hm).1
theorem UF.no_zero {p:PL} {up:Int→Option Int} (u:UF (pairsE p.es) up) (r:RightP p) {g:Int→Int} (hg: ∀a,Rt up a (g a)): ∀id,IsV p id→g id≠0:=fun id hv=>by
 have:=r.id_pos (r.conn_isV ((u.iff (hg id) (hg id).self).1 rfl) hv)
 omega
theorem find_hit {α:Type} {f:α→Bool}: ∀ {l:List α} {k:Nat} {x:α},(∀y∈l.take k,f y=false)→l[k]? =some x→f x=true→l.find? f=some x
 | [],k,x,_,hx,_=>by simp at hx
 |y::l,0,x,_,hx,hf=>by
  simp at hx
  subst hx
  rw[List.find?_cons_of_pos hf]
 |y::l,k+1,x,h,hx,hf=>by
  rw[List.take_succ_cons] at h
  rw[List.find?_cons_of_neg (by rw[h y (by simp)];decide)]
  exact find_hit (k:=k) (fun z hz=>h z (List.mem_cons_of_mem _ hz)) (by simpa using hx) hf
end Go.Proofs.Ythopjhifepijiaa
