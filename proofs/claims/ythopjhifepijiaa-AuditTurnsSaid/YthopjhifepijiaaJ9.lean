/- Lemmas on the way to the statement. -/
import Derived.Test.YthopjhifepijiaaJ8
import Derived.Laws.AppendOwn
set_option linter.unusedSimpArgs false
set_option linter.unusedVariables false
namespace Go.Proofs.Ythopjhifepijiaa
open Go.RowKit Go.Joins
open Go.Maps (Keyed)
def HdR (lo:Nat→Prop) (hi:Nat) (w:World) (x:Value) (R:List Hf):Prop:=(R=[]∧x= .slice none 0 0)∨ ∃g c,x= .slice (some ⟨g,0,none⟩) R.length c∧lo g∧g<hi∧HsAt w g 0 R
theorem HdR.touch {lo:Nat→Prop} {hi:Nat} {w w':World} {x:Value} {R:List Hf} {F:List Nat} (h:HdR lo hi w x R) (t:Touch F w w') (hw:hi≤w.heap.size) (hF: ∀b∈F, ¬lo b∨hi≤b):HdR lo hi w' x R:=
 h.imp id (fun⟨g,c,e,h1,h2,hs⟩=>⟨g,c,e,h1,h2,hs.touch t (Nat.lt_of_lt_of_le h2 hw) (fun hm=>(hF g hm).elim (fun e=>e h1) (fun e=>by omega))⟩)
structure Fam (w:World) (t:TypeId) (size lo:Nat) (V:Nat→Value) (N:Nat→Nat) (C:Nat→List Value):Prop where
 own: ∀i,w.ownsRow lo t size (V i) (N i) (C i)
 apart: ∀i j b,(V i).ownBlock=some b→(V j).ownBlock=some b→i=j
def upd {α:Type} (f:Nat→α) (i:Nat) (x:α):Nat→α:=fun j=>if j=i then x else f j
section
variable {w w' w2:World} {t:TypeId} {size lo:Nat} {V:Nat→Value} {N:Nat→Nat} {C:Nat→List Value}
theorem Fam.nil (w:World) (t:TypeId) (size lo:Nat):Fam w t size lo (fun _=> .slice none 0 0) (fun _=>0) (fun _=>[]):=⟨fun i=>World.ownsRow_nil _ _ _ _,fun i j b h=>by cases h⟩
theorem Fam.touch {F:List Nat} (h:Fam w t size lo V N C) (k:Touch F w w') (hF: ∀i b,(V i).ownBlock=some b→b∉F):Fam w' t size lo V N C:=⟨fun i=>ownsRow_touch (h.own i) k (hF i),h.apart⟩
theorem Fam.low {F:List Nat} (h:Fam w t size lo V N C) (k:Touch F w w') (hF: ∀b∈F,b<lo):Fam w' t size lo V N C:=h.touch k (fun i b hb hm=>by have:=((h.own i).lt b hb).1;have:=hF b hm;omega)
theorem Fam.put (h:Fam w t size lo V N C) (b:Below w.heap.size w w2) (i:Nat) {v:Value} {n:Nat} {c:List Value} (ho:w'.ownsRow lo t size v n c) (k:w2.grownBy w' (V i).ownBlock) (hat: ∀g,v.ownBlock=some g→(V i).ownBlock=some g∨w2.heap.size≤g):Fam w' t size lo (upd V i v) (upd N i n) (upd C i c):=by
 have kk:=(Touch.of_below (F:=(V i).ownBlock.toList) b).trans (Touch.of_grown k) (fun x hx=> .inl hx)
 have hne: ∀j g,j≠i→(V j).ownBlock=some g→g∉(V i).ownBlock.toList:=fun j g hj hg hm=>hj (h.apart j i g hg (Option.mem_toList.1 hm))
 have hnv: ∀j g,j≠i→(V j).ownBlock=some g→v.ownBlock=some g→False:=fun j g hj hg hv=>by
  rcases hat g hv with h1|h1
  ·exact hj (h.apart j i g hg h1)
  ·have:=((h.own j).lt g hg).2
   have:=b.size
   omega
 refine⟨fun j=> ?_,fun j l g hj hl=> ?_⟩
 ·unfold upd
  by_cases e:j=i
  ·rw[if_pos e,if_pos e,if_pos e];exact ho
  ·rw[if_neg e,if_neg e,if_neg e]
   exact ownsRow_touch (h.own j) kk (fun g hg=>hne j g e hg)
 ·unfold upd at hj hl
  by_cases e1:j=i
  ·by_cases e2:l=i
   ·rw[e1,e2]
   ·rw[if_pos e1] at hj
    rw[if_neg e2] at hl
    exact(hnv l g e2 hl hj).elim
  ·rw[if_neg e1] at hj
   by_cases e2:l=i
   ·rw[if_pos e2] at hl
    exact(hnv j g e1 hj hl).elim
   ·rw[if_neg e2] at hl
    exact h.apart j l g hj hl
end
def rmAt (l:List RM) (i:Nat):RM:=l.getD i ⟨[],[],[]⟩
def HdRs (lo:Nat→Prop) (hi:Nat) (w:World) (Z:List Value) (L:List (List Hf)):Prop:=Z.length=L.length∧ ∀(i:Nat) (z:Value) (R:List Hf),Z[i]? =some z→L[i]? =some R→HdR lo hi w z R
theorem HdRs.nil (lo:Nat→Prop) (hi:Nat) (w:World):HdRs lo hi w [] []:=⟨rfl,fun i z R h=>by simp at h⟩
theorem HdRs.touch {lo:Nat→Prop} {hi:Nat} {w w':World} {Z:List Value} {L:List (List Hf)} {F:List Nat} (h:HdRs lo hi w Z L) (t:Touch F w w') (hw:hi≤w.heap.size) (hF: ∀b∈F, ¬lo b∨hi≤b):HdRs lo hi w' Z L:=
 ⟨h.1,fun i z R hz hR=>(h.2 i z R hz hR).touch t hw hF⟩
theorem HdRs.snoc {lo:Nat→Prop} {hi:Nat} {w:World} {Z:List Value} {L:List (List Hf)} {z:Value} {R:List Hf} (h:HdRs lo hi w Z L) (hz:HdR lo hi w z R):HdRs lo hi w (Z++[z]) (L++[R]):=by
 refine⟨by rw[List.length_append,List.length_append,h.1];rfl,fun i x S hx hS=> ?_⟩
 by_cases hi:i<Z.length
 ·rw[List.getElem?_append_left hi] at hx
  rw[List.getElem?_append_left (by rw[←h.1];exact hi)] at hS
  exact h.2 i x S hx hS
 ·rw[List.getElem?_append_right (by omega)] at hx
  rw[List.getElem?_append_right (by rw[←h.1];omega), ←h.1] at hS
  have h0:i - Z.length=0:=by have:=(List.getElem?_eq_some_iff.1 hx).1;simp at this;omega
  rw[h0] at hx hS
  simp at hx hS
  subst hx hS
  exact hz
structure RlM (tR tS tI:TypeId) (lo:Nat→Prop) (hi bs:Nat) (w:World) (v:Value) (l:List RM) (H VI VA:Nat→Value) (ZI:Nat→List Value):Prop where
 row:w.ownsRow 0 tR 3 v l.length ((List.range l.length).flatMap fun i=>[H i,VI i,VA i])
 hd: ∀i,i<l.length→HdR lo hi w (H i) (rmAt l i).outer
 le:hi≤bs
 fi:Fam w tS 1 bs VI (fun i=>(ZI i).length) ZI
 hin: ∀i,HdRs lo hi w (ZI i) (rmAt l i).inner
 fa:Fam w tI 1 bs VA (fun i=>(rmAt l i).alone.length) (fun i=>(rmAt l i).alone.map (Value.int .i64))
 vi: ∀i,l.length≤i→VI i= .slice none 0 0
 va: ∀i,l.length≤i→VA i= .slice none 0 0
theorem RlM.touch {tR tS tI:TypeId} {lo:Nat→Prop} {hi bs:Nat} {w w':World} {v:Value} {l:List RM} {H VI VA:Nat→Value} {ZI:Nat→List Value} {F:List Nat} (h:RlM tR tS tI lo hi bs w v l H VI VA ZI) (t:Touch F w w') (hw:hi≤w.heap.size)
  (h1: ∀b∈F, ¬lo b∨hi≤b) (h2: ∀b,v.ownBlock=some b→b∉F) (h3: ∀i b,(VI i).ownBlock=some b→b∉F) (h4: ∀i b,(VA i).ownBlock=some b→b∉F):RlM tR tS tI lo hi bs w' v l H VI VA ZI:=
 ⟨ownsRow_touch h.row t h2,fun i hi'=>(h.hd i hi').touch t hw h1,h.le,h.fi.touch t h3,fun i=>(h.hin i).touch t hw h1,h.fa.touch t h4,h.vi,h.va⟩
theorem own_alloc (w:World) (base size n:Nat) (t:TypeId) (l:List Value) (hb:base≤w.heap.size) (hl:l.length=n*size) (hn:n≤maxLen):(w.alloc (.cells l.toArray t)).ownsRow base t size (.slice (some ⟨w.heap.size,0,none⟩) n n) n l:=by
 refine⟨hl, .inr ⟨w.heap.size,n,l.toArray,rfl,hb, ?_,Nat.le_refl _,hn,by simpa using hl, ?_⟩⟩
 ·show(w.heap.push _)[w.heap.size]? =_
  rw[Array.getElem?_push_size]
 ·simp[List.take_of_length_le (Nat.le_of_eq hl)]
theorem own_set {w:World} {base g n cap size:Nat} {e:TypeId} {xs:List Value} (h:w.ownsRow base e size (.slice (some ⟨g,0,none⟩) n cap) n xs) {j:Nat} (hj:j<n*size) (x:Value):(w.setCell ⟨g,j,none⟩ x).ownsRow base e size (.slice (some ⟨g,0,none⟩) n cap) n (xs.set j x):=by
 obtain⟨hl,h0|⟨g',cap',cur,hv,hb,hg,h1,h2,h3,h4⟩⟩:=h
 ·cases h0.1
 ·cases hv
  refine⟨by rw[List.length_set];exact hl, .inr ⟨g,cap,cur.setIfInBounds j x,rfl,hb, ?_,h1,h2,by simpa using h3, ?_⟩⟩
  ·simp only[World.setCell,Array.getElem?_modify,if_true,hg,Option.map_some]
   simp
  ·rw[Array.toList_setIfInBounds, ←h4,List.take_set]
theorem range_flat_set (H VI VA:Nat→Value) (k i c:Nat) (hi:i<k) (hc:c<3) (x:Value) (f':Nat→List Value) (hf: ∀j,f' j=if j=i then([H j,VI j,VA j]:List Value).set c x else [H j,VI j,VA j]):
  ((List.range k).flatMap fun i=>[H i,VI i,VA i]).set (i*3+c) x=(List.range k).flatMap f':=by
 have hlen: ∀(F:Nat→List Value),(∀j,(F j).length=3)→((List.range k).flatMap F).length=k*3:=fun F h=>by
  induction k with
  |zero=>simp
  |succ n ih=>clear hi;rw[List.range_succ,List.flatMap_append,List.length_append,show((List.range n).flatMap F).length=n*3 from by
    clear ih
    induction n with
    |zero=>simp
    |succ m ihm=>rw[List.range_succ,List.flatMap_append,List.length_append,ihm];simp[h];omega];simp[h];omega
 have hf3: ∀j,(f' j).length=3:=fun j=>by rw[hf];split<;>simp
 apply List.ext_getElem?
 intro q
 by_cases hq:q<k*3
 ·have hd:q / 3<k:=by omega
  have g1:=flatMap_get (n:=3) (f:=fun i=>[H i,VI i,VA i]) (fun _=>rfl) (List.range k) (q / 3) (q % 3) (q / 3) _ (by rw[List.getElem?_range hd]) (List.getElem?_eq_getElem (l:=[H (q / 3),VI (q / 3),VA (q / 3)]) (i:=q % 3) (by simp;omega))
  have g2:=flatMap_get (n:=3) (f:=f') hf3 (List.range k) (q / 3) (q % 3) (q / 3) _ (by rw[List.getElem?_range hd]) (List.getElem?_eq_getElem (l:=f' (q / 3)) (i:=q % 3) (by rw[hf3];omega))
  rw[show q / 3*3+q % 3=q by omega] at g1 g2
  rw[g2]
  by_cases e:q=i*3+c
  ·rw[e,List.getElem?_set_self (by rw[hlen _ (fun _=>rfl)];omega)]
   have e1:(i*3+c) / 3=i:=by omega
   have e2:(i*3+c) % 3=c:=by omega
   subst e
   rw[←List.getElem?_eq_getElem,hf,e1,e2,if_pos rfl,List.getElem?_set_self (by simpa using hc)]
  ·rw[List.getElem?_set_ne (Ne.symm e),g1, ←List.getElem?_eq_getElem, ←List.getElem?_eq_getElem,hf]
   by_cases e3:q / 3=i
   ·rw[if_pos e3,List.getElem?_set_ne (by omega)]
   ·rw[if_neg e3]
 ·rw[List.getElem?_eq_none (by rw[List.length_set,hlen _ (fun _=>rfl)];omega),List.getElem?_eq_none (by rw[hlen _ hf3];omega)]
theorem rmAt_addI (l:List RM) (i:Nat) (L:List Hf) (j:Nat) (hi:i<l.length):rmAt (addI l i L) j=if j=i then { rmAt l j with inner:=(rmAt l j).inner++[L] } else rmAt l j:=by
 unfold rmAt addI
 rw[List.getD_eq_getElem?_getD,List.getD_eq_getElem?_getD,List.getElem?_modify]
 by_cases e:j=i
 ·subst e
  simp[List.getElem?_eq_getElem hi]
 ·have e2: ¬i=j:=fun h=>e h.symm
  rw[if_neg e]
  cases l[j]? <;>simp[e2]
theorem rmAt_addA (l:List RM) (i:Nat) (id:Int) (j:Nat) (hi:i<l.length):rmAt (addA l i id) j=if j=i then { rmAt l j with alone:=(rmAt l j).alone++[id] } else rmAt l j:=by
 unfold rmAt addA
 rw[List.getD_eq_getElem?_getD,List.getD_eq_getElem?_getD,List.getElem?_modify]
 by_cases e:j=i
 ·subst e
  simp[List.getElem?_eq_getElem hi]
 ·have e2: ¬i=j:=fun h=>e h.symm
  rw[if_neg e]
  cases l[j]? <;>simp[e2]
theorem len_addI (l:List RM) (i:Nat) (L:List Hf):(addI l i L).length=l.length:=List.length_modify _ _ _
theorem len_addA (l:List RM) (i:Nat) (id:Int):(addA l i id).length=l.length:=List.length_modify _ _ _
theorem RlM.addI {tR tS tI:TypeId} {lo:Nat→Prop} {hi bs:Nat} {w w2 w':World} {l:List RM} {H VI VA:Nat→Value} {ZI:Nat→List Value} {g cap i:Nat} (h:RlM tR tS tI lo hi bs w (.slice (some ⟨g,0,none⟩) l.length cap) l H VI VA ZI) (hi':i<l.length) {L:List Hf} {z:Value} {g2 cap2:Nat}
  (hz:HdR lo hi w z L) (hw:hi≤w.heap.size) (b:Below w.heap.size w w2) (ho:w'.ownsRow bs tS 1 (.slice (some ⟨g2,0,none⟩) ((ZI i).length+1) cap2) ((ZI i).length+1) (ZI i++[z])) (k:w2.grownBy w' (VI i).ownBlock) (hat:(VI i).ownBlock=some g2∨w2.heap.size≤g2)
  (n1:tR≠tS) (n2:tI≠tS) (n3:tI≠tR) (hg: ¬lo g∨hi≤g):
  RlM tR tS tI lo hi bs (w'.setCell ⟨g,i*3+1,none⟩ (.slice (some ⟨g2,0,none⟩) ((ZI i).length+1) cap2)) (.slice (some ⟨g,0,none⟩) l.length cap) (addI l i L) H (upd VI i (.slice (some ⟨g2,0,none⟩) ((ZI i).length+1) cap2)) VA (upd ZI i (ZI i++[z])):=by
 have k1:=(Touch.of_below (F:=(VI i).ownBlock.toList) b).trans (Touch.of_grown k) (fun x hx=> .inl hx)
 have hF1: ∀x∈(VI i).ownBlock.toList, ¬lo x∨hi≤x:=fun x hx=> .inr (Nat.le_trans h.le ((h.fi.own i).lt x (Option.mem_toList.1 hx)).1)
 have hgF:g∉(VI i).ownBlock.toList:=fun hm=>own_apart h.row (h.fi.own i) n1 (g:=g) rfl (Option.mem_toList.1 hm)
 have row1:=ownsRow_touch h.row k1 (fun x hx=>by cases hx;exact hgF)
 have k2:Touch [g] w' (w'.setCell ⟨g,i*3+1,none⟩ (.slice (some ⟨g2,0,none⟩) ((ZI i).length+1) cap2)):=(Touch.refl _ _).setCell (.inl (by simp)) _
 have fi1:=h.fi.put b i ho k (fun q hq=>by cases hq;exact hat)
 have hsz:hi≤w'.heap.size:=Nat.le_trans hw k1.size
 have hF2: ∀x∈[g], ¬lo x∨hi≤x:=fun x hx=>by simp at hx;subst hx;exact hg
 have hgv: ∀j q,(upd VI i (.slice (some ⟨g2,0,none⟩) ((ZI i).length+1) cap2) j).ownBlock=some q→q∉ [g]:=fun j q hq hm=>by
  simp at hm;subst hm
  exact own_apart row1 (fi1.own j) n1 (g:=q) rfl hq
 have hav: ∀j q,(VA j).ownBlock=some q→q∉(VI i).ownBlock.toList:=fun j q hq hm=>own_apart (h.fa.own j) (h.fi.own i) n2 hq (Option.mem_toList.1 hm)
 have fa1:=h.fa.touch k1 hav
 have hag: ∀j q,(VA j).ownBlock=some q→q∉ [g]:=fun j q hq hm=>by
  simp at hm;subst hm
  exact own_apart (fa1.own j) row1 n3 hq rfl
 have eal:(fun j=>(rmAt (_root_.Go.Proofs.Ythopjhifepijiaa.addI l i L) j).alone)=fun j=>(rmAt l j).alone:=by
  funext j
  rw[rmAt_addI l i L j hi']
  split<;>rfl
 refine⟨?_,fun j hj=> ?_,h.le, ?_,fun j=> ?_, ?_,fun j hj=> ?_,fun j hj=> ?_⟩
 ·have:=own_set row1 (j:=i*3+1) (by omega) (.slice (some ⟨g2,0,none⟩) ((ZI i).length+1) cap2)
  rw[range_flat_set H VI VA l.length i 1 hi' (by omega) _ (fun j=>[H j,upd VI i (.slice (some ⟨g2,0,none⟩) ((ZI i).length+1) cap2) j,VA j]) (fun j=>by
   unfold upd
   by_cases e:j=i
   ·rw[if_pos e,if_pos e];rfl
   ·rw[if_neg e,if_neg e])] at this
  rw[len_addI]
  exact this
 ·rw[len_addI] at hj
  have:=((h.hd j hj).touch k1 hw hF1).touch k2 hsz hF2
  rw[rmAt_addI l i L j hi']
  split<;>exact this
 ·have e:(upd (fun i=>(ZI i).length) i ((ZI i).length+1))=fun j=>(upd ZI i (ZI i++[z]) j).length:=by
   funext j
   unfold upd
   split
   ·simp
   ·rfl
  rw[e] at fi1
  exact fi1.touch k2 hgv
 ·rw[rmAt_addI l i L j hi']
  unfold upd
  by_cases e:j=i
  ·subst e
   rw[if_pos rfl,if_pos rfl]
   exact(((h.hin j).touch k1 hw hF1).touch k2 hsz hF2).snoc ((hz.touch k1 hw hF1).touch k2 hsz hF2)
  ·rw[if_neg e,if_neg e]
   exact((h.hin j).touch k1 hw hF1).touch k2 hsz hF2
 ·have e1:(fun j=>(rmAt (_root_.Go.Proofs.Ythopjhifepijiaa.addI l i L) j).alone.length)=fun j=>(rmAt l j).alone.length:=by funext j;rw[congrFun eal j]
  have e2:(fun j=>(rmAt (_root_.Go.Proofs.Ythopjhifepijiaa.addI l i L) j).alone.map (Value.int .i64))=fun j=>(rmAt l j).alone.map (Value.int .i64):=by funext j;rw[congrFun eal j]
  rw[e1,e2]
  exact fa1.touch k2 hag
 ·rw[len_addI] at hj
  unfold upd
  rw[if_neg (by omega)]
  exact h.vi j hj
 ·rw[len_addI] at hj
  exact h.va j hj
end Go.Proofs.Ythopjhifepijiaa
namespace Go.Proofs.Ythopjhifepijiaa
open Go.RowKit Go.Joins
open Go.Maps (Keyed)
theorem RlM.addA {tR tS tI:TypeId} {lo:Nat→Prop} {hi bs:Nat} {w w2 w':World} {l:List RM} {H VI VA:Nat→Value} {ZI:Nat→List Value} {g cap i:Nat} (h:RlM tR tS tI lo hi bs w (.slice (some ⟨g,0,none⟩) l.length cap) l H VI VA ZI) (hi':i<l.length) {id:Int} {g2 cap2:Nat}
  (hw:hi≤w.heap.size) (b:Below w.heap.size w w2) (ho:w'.ownsRow bs tI 1 (.slice (some ⟨g2,0,none⟩) ((rmAt l i).alone.length+1) cap2) ((rmAt l i).alone.length+1) ((rmAt l i).alone.map (Value.int .i64)++[.int .i64 id])) (k:w2.grownBy w' (VA i).ownBlock) (hat:(VA i).ownBlock=some g2∨w2.heap.size≤g2)
  (n1:tR≠tI) (n2:tS≠tI) (n3:tS≠tR) (hg: ¬lo g∨hi≤g):
  RlM tR tS tI lo hi bs (w'.setCell ⟨g,i*3+2,none⟩ (.slice (some ⟨g2,0,none⟩) ((rmAt l i).alone.length+1) cap2)) (.slice (some ⟨g,0,none⟩) l.length cap) (addA l i id) H VI (upd VA i (.slice (some ⟨g2,0,none⟩) ((rmAt l i).alone.length+1) cap2)) ZI:=by
 have k1:=(Touch.of_below (F:=(VA i).ownBlock.toList) b).trans (Touch.of_grown k) (fun x hx=> .inl hx)
 have hF1: ∀x∈(VA i).ownBlock.toList, ¬lo x∨hi≤x:=fun x hx=> .inr (Nat.le_trans h.le ((h.fa.own i).lt x (Option.mem_toList.1 hx)).1)
 have hgF:g∉(VA i).ownBlock.toList:=fun hm=>own_apart h.row (h.fa.own i) n1 (g:=g) rfl (Option.mem_toList.1 hm)
 have row1:=ownsRow_touch h.row k1 (fun x hx=>by cases hx;exact hgF)
 have k2:Touch [g] w' (w'.setCell ⟨g,i*3+2,none⟩ (.slice (some ⟨g2,0,none⟩) ((rmAt l i).alone.length+1) cap2)):=(Touch.refl _ _).setCell (.inl (by simp)) _
 have fa1:=h.fa.put b i ho k (fun q hq=>by cases hq;exact hat)
 have hsz:hi≤w'.heap.size:=Nat.le_trans hw k1.size
 have hF2: ∀x∈[g], ¬lo x∨hi≤x:=fun x hx=>by simp at hx;subst hx;exact hg
 have hgv: ∀j q,(upd VA i (.slice (some ⟨g2,0,none⟩) ((rmAt l i).alone.length+1) cap2) j).ownBlock=some q→q∉ [g]:=fun j q hq hm=>by
  simp at hm;subst hm
  exact own_apart row1 (fa1.own j) n1 (g:=q) rfl hq
 have hav: ∀j q,(VI j).ownBlock=some q→q∉(VA i).ownBlock.toList:=fun j q hq hm=>own_apart (h.fi.own j) (h.fa.own i) n2 hq (Option.mem_toList.1 hm)
 have fi1:=h.fi.touch k1 hav
 have hag: ∀j q,(VI j).ownBlock=some q→q∉ [g]:=fun j q hq hm=>by
  simp at hm;subst hm
  exact own_apart (fi1.own j) row1 n3 hq rfl
 refine⟨?_,fun j hj=> ?_,h.le,fi1.touch k2 hag,fun j=> ?_, ?_,fun j hj=> ?_,fun j hj=> ?_⟩
 ·have:=own_set row1 (j:=i*3+2) (by omega) (.slice (some ⟨g2,0,none⟩) ((rmAt l i).alone.length+1) cap2)
  rw[range_flat_set H VI VA l.length i 2 hi' (by omega) _ (fun j=>[H j,VI j,upd VA i (.slice (some ⟨g2,0,none⟩) ((rmAt l i).alone.length+1) cap2) j]) (fun j=>by
   unfold upd
   by_cases e:j=i
   ·rw[if_pos e,if_pos e];rfl
   ·rw[if_neg e,if_neg e])] at this
  rw[len_addA]
  exact this
 ·rw[len_addA] at hj
  have:=((h.hd j hj).touch k1 hw hF1).touch k2 hsz hF2
  rw[rmAt_addA l i id j hi']
  split<;>exact this
 ·have:=((h.hin j).touch k1 hw hF1).touch k2 hsz hF2
  rw[rmAt_addA l i id j hi']
  split<;>exact this
 ·have e1:(upd (fun i=>(rmAt l i).alone.length) i ((rmAt l i).alone.length+1))=fun j=>(rmAt (_root_.Go.Proofs.Ythopjhifepijiaa.addA l i id) j).alone.length:=by
   funext j
   rw[rmAt_addA l i id j hi']
   unfold upd
   by_cases e:j=i
   ·subst e;simp
   ·rw[if_neg e,if_neg e]
  have e2:(upd (fun i=>(rmAt l i).alone.map (Value.int .i64)) i ((rmAt l i).alone.map (Value.int .i64)++[.int .i64 id]))=fun j=>(rmAt (_root_.Go.Proofs.Ythopjhifepijiaa.addA l i id) j).alone.map (Value.int .i64):=by
   funext j
   rw[rmAt_addA l i id j hi']
   unfold upd
   by_cases e:j=i
   ·subst e;simp
   ·rw[if_neg e,if_neg e]
  rw[e1,e2] at fa1
  exact fa1.touch k2 hgv
 ·rw[len_addA] at hj
  exact h.vi j hj
 ·rw[len_addA] at hj
  unfold upd
  rw[if_neg (by omega)]
  exact h.va j hj
theorem flat_congr {α β:Type} {f g:α→List β}: ∀ {l:List α},(∀x∈l,f x=g x)→l.flatMap f=l.flatMap g
 | [],_=>rfl
 |x::l,h=>by rw[List.flatMap_cons,List.flatMap_cons,h x (by simp),flat_congr (fun y hy=>h y (by simp[hy]))]
theorem rmAt_snoc (l:List RM) (r:RM) (j:Nat):rmAt (l++[r]) j=if j=l.length then r else rmAt l j:=by
 unfold rmAt
 rw[List.getD_eq_getElem?_getD,List.getD_eq_getElem?_getD]
 by_cases e:j=l.length
 ·subst e;simp
 ·rw[if_neg e]
  by_cases h:j<l.length
  ·rw[List.getElem?_append_left h]
  ·rw[List.getElem?_eq_none (by simp;omega),List.getElem?_eq_none (by omega)]
theorem rmAt_out (l:List RM) (j:Nat) (h:l.length≤j):rmAt l j=⟨[],[],[]⟩:=by unfold rmAt;rw[List.getD_eq_getElem?_getD,List.getElem?_eq_none h];rfl
theorem RlM.snoc {tR tS tI:TypeId} {lo:Nat→Prop} {hi bs:Nat} {w w2 w':World} {l:List RM} {v:Value} {H VI VA:Nat→Value} {ZI:Nat→List Value} (h:RlM tR tS tI lo hi bs w v l H VI VA ZI) {L:List Hf} {z:Value} {g2 cap2:Nat}
  (hz:HdR lo hi w z L) (hw:hi≤w.heap.size) (b:Below w.heap.size w w2) (ho:w'.ownsRow 0 tR 3 (.slice (some ⟨g2,0,none⟩) (l.length+1) cap2) (l.length+1) (((List.range l.length).flatMap fun i=>[H i,VI i,VA i])++[z, .slice none 0 0, .slice none 0 0])) (k:w2.grownBy w' v.ownBlock)
  (n1:tS≠tR) (n2:tI≠tR) (hg: ∀b,v.ownBlock=some b→ ¬lo b∨hi≤b):
  RlM tR tS tI lo hi bs w' (.slice (some ⟨g2,0,none⟩) (l.length+1) cap2) (l++[⟨L,[],[]⟩]) (upd H l.length z) VI VA ZI:=by
 have k1:=(Touch.of_below (F:=v.ownBlock.toList) b).trans (Touch.of_grown k) (fun x hx=> .inl hx)
 have hF1: ∀x∈v.ownBlock.toList, ¬lo x∨hi≤x:=fun x hx=>hg x (Option.mem_toList.1 hx)
 have hav: ∀j q,(VA j).ownBlock=some q→q∉v.ownBlock.toList:=fun j q hq hm=>own_apart (h.fa.own j) h.row n2 hq (Option.mem_toList.1 hm)
 have hiv: ∀j q,(VI j).ownBlock=some q→q∉v.ownBlock.toList:=fun j q hq hm=>own_apart (h.fi.own j) h.row n1 hq (Option.mem_toList.1 hm)
 have e0:=rmAt_out l l.length (Nat.le_refl _)
 have ea: ∀j,(rmAt (l++[⟨L,[],[]⟩]) j).alone=(rmAt l j).alone:=fun j=>by
  rw[rmAt_snoc]
  split
  ·rename_i e;rw[e,e0]
  ·rfl
 have ei: ∀j,(rmAt (l++[⟨L,[],[]⟩]) j).inner=(rmAt l j).inner:=fun j=>by
  rw[rmAt_snoc]
  split
  ·rename_i e;rw[e,e0]
  ·rfl
 refine⟨?_,fun j hj=> ?_,h.le,h.fi.touch k1 hiv,fun j=> ?_, ?_,fun j hj=> ?_,fun j hj=> ?_⟩
 ·rw[List.length_append]
  show w'.ownsRow 0 tR 3 _ (l.length+1) _
  rw[show l.length+[(⟨L,[],[]⟩:RM)].length=l.length+1 from rfl,List.range_succ,List.flatMap_append]
  have e1:(List.range l.length).flatMap (fun i=>[upd H l.length z i,VI i,VA i])=(List.range l.length).flatMap (fun i=>[H i,VI i,VA i]):=by
   refine flat_congr (fun j hj=> ?_)
   have:=List.mem_range.1 hj
   unfold upd
   rw[if_neg (by omega)]
  rw[e1]
  have e2:[l.length].flatMap (fun i=>[upd H l.length z i,VI i,VA i])=[z, .slice none 0 0, .slice none 0 0]:=by
   show [upd H l.length z l.length,VI l.length,VA l.length]++[]=_
   unfold upd
   rw[if_pos rfl,h.vi _ (Nat.le_refl _),h.va _ (Nat.le_refl _)]
   rfl
  rw[e2]
  exact ho
 ·rw[rmAt_snoc]
  unfold upd
  by_cases e:j=l.length
  ·rw[if_pos e,if_pos e]
   exact hz.touch k1 hw hF1
  ·rw[if_neg e,if_neg e]
   rw[List.length_append] at hj
   exact(h.hd j (by simp at hj;omega)).touch k1 hw hF1
 ·rw[ei j]
  exact(h.hin j).touch k1 hw hF1
 ·have e1:(fun j=>(rmAt (l++[⟨L,[],[]⟩]) j).alone.length)=fun j=>(rmAt l j).alone.length:=by funext j;rw[ea j]
  have e2:(fun j=>(rmAt (l++[⟨L,[],[]⟩]) j).alone.map (Value.int .i64))=fun j=>(rmAt l j).alone.map (Value.int .i64):=by funext j;rw[ea j]
  rw[e1,e2]
  exact h.fa.touch k1 hav
 ·rw[List.length_append] at hj
  exact h.vi j (by omega)
 ·rw[List.length_append] at hj
  exact h.va j (by omega)
theorem RlM.start {tR tS tI:TypeId} {lo:Nat→Prop} {hi bs:Nat} {w':World} {g cap:Nat} (hbs:hi≤bs) (ho:w'.ownsRow 0 tR 3 (.slice (some ⟨g,0,none⟩) 1 cap) 1 [.slice none 0 0, .slice none 0 0, .slice none 0 0]):RlM tR tS tI lo hi bs w' (.slice (some ⟨g,0,none⟩) 1 cap) [⟨[],[],[]⟩] (fun _=> .slice none 0 0) (fun _=> .slice none 0 0) (fun _=> .slice none 0 0) (fun _=>[]):=by
 have e: ∀j,rmAt [⟨[],[],[]⟩] j=⟨[],[],[]⟩:=fun j=>by
  unfold rmAt
  rcases j with _|j<;>rfl
 refine⟨ho,fun j hj=> ?_,hbs,Fam.nil _ _ _ _,fun j=> ?_, ?_,fun _ _=>rfl,fun _ _=>rfl⟩
 ·rw[e];exact .inl ⟨rfl,rfl⟩
 ·rw[e];exact HdRs.nil _ _ _
 ·have e1:(fun i=>(rmAt [⟨[],[],[]⟩] i).alone.length)=fun _=>0:=by funext j;rw[e];rfl
  have e2:(fun i=>(rmAt [⟨[],[],[]⟩] i).alone.map (Value.int .i64))=fun _=>[]:=by funext j;rw[e];rfl
  rw[e1,e2]
  exact Fam.nil _ _ _ _
theorem RlM.rebase {tR tS tI:TypeId} {lo:Nat→Prop} {hi bs bs':Nat} {w:World} {l:List RM} {v:Value} {H:Nat→Value} {ZI:Nat→List Value} (h:RlM tR tS tI lo hi bs w v l H (fun _=> .slice none 0 0) (fun _=> .slice none 0 0) ZI) (hb:hi≤bs'):RlM tR tS tI lo hi bs' w v l H (fun _=> .slice none 0 0) (fun _=> .slice none 0 0) ZI:=by
 have re: ∀ {t:TypeId} {n:Nat} {xs:List Value},w.ownsRow bs t 1 (.slice none 0 0) n xs→w.ownsRow bs' t 1 (.slice none 0 0) n xs:=fun h=>by
  obtain⟨h1,h2|⟨g,c,cur,e, -⟩⟩:=h
  ·exact⟨h1, .inl h2⟩
  ·cases e
 exact⟨h.row,h.hd,hb,⟨fun i=>re (h.fi.own i),fun i j b e=>by cases e⟩,h.hin,⟨fun i=>re (h.fa.own i),fun i j b e=>by cases e⟩,h.vi,h.va⟩
def ouC (y:Value) (o:OU):List Value:=[y, .int .u64 (wrd o.area 0), .int .u64 (wrd o.area 1), .int .u64 (wrd o.area 2), .int .u64 (wrd o.area 3), .int .i64 o.piece]
def ouAt (l:List OU) (i:Nat):OU:=l.getD i ⟨[],0,0⟩
structure OuM (tO tP:TypeId) (hi:Nat) (w:World) (v:Value) (l:List OU) (Y:Nat→Value):Prop where
 row:w.ownsRow hi tO 6 v l.length ((List.range l.length).flatMap fun i=>ouC (Y i) (ouAt l i))
 ln: ∀i,i<l.length→w.ownsRow hi tP 4 (Y i) (ouAt l i).lines.length ((ouAt l i).lines.flatMap lnC)
theorem OuM.nil (tO tP:TypeId) (hi:Nat) (w:World):OuM tO tP hi w (.slice none 0 0) [] (fun _=> .slice none 0 0):=⟨World.ownsRow_nil _ _ _ _,fun i h=>by simp at h⟩
theorem OuM.touch {tO tP:TypeId} {hi:Nat} {w w':World} {v:Value} {l:List OU} {Y:Nat→Value} {F:List Nat} (h:OuM tO tP hi w v l Y) (t:Touch F w w') (h1: ∀b,v.ownBlock=some b→b∉F) (h2: ∀i b,i<l.length→(Y i).ownBlock=some b→b∉F):OuM tO tP hi w' v l Y:=
 ⟨ownsRow_touch h.row t h1,fun i hi'=>ownsRow_touch (h.ln i hi') t (fun b hb=>h2 i b hi' hb)⟩
theorem OuM.low {tO tP:TypeId} {hi:Nat} {w w':World} {v:Value} {l:List OU} {Y:Nat→Value} {F:List Nat} (h:OuM tO tP hi w v l Y) (t:Touch F w w') (hF: ∀b∈F,b<hi):OuM tO tP hi w' v l Y:=
 h.touch t (fun b hb hm=>by have:=(h.row.lt b hb).1;have:=hF b hm;omega) (fun i b hi' hb hm=>by have:=((h.ln i hi').lt b hb).1;have:=hF b hm;omega)
theorem OuM.other {tO tP tX:TypeId} {hi base size n:Nat} {w w':World} {v x:Value} {l:List OU} {Y:Nat→Value} {xs:List Value} (h:OuM tO tP hi w v l Y) (t:Touch x.ownBlock.toList w w') (hx:w.ownsRow base tX size x n xs) (n1:tO≠tX) (n2:tP≠tX):OuM tO tP hi w' v l Y:=
 h.touch t (fun b hb hm=>own_apart h.row hx n1 hb (Option.mem_toList.1 hm)) (fun i b hi' hb hm=>own_apart (h.ln i hi') hx n2 hb (Option.mem_toList.1 hm))
theorem ouAt_snoc (l:List OU) (o:OU) (j:Nat):ouAt (l++[o]) j=if j=l.length then o else ouAt l j:=by
 unfold ouAt
 rw[List.getD_eq_getElem?_getD,List.getD_eq_getElem?_getD]
 by_cases e:j=l.length
 ·subst e;simp
 ·rw[if_neg e]
  by_cases h:j<l.length
  ·rw[List.getElem?_append_left h]
  ·rw[List.getElem?_eq_none (by simp;omega),List.getElem?_eq_none (by omega)]
theorem OuM.snoc {tO tP:TypeId} {hi:Nat} {w w2 w':World} {v:Value} {l:List OU} {Y:Nat→Value} (h:OuM tO tP hi w v l Y) {o:OU} {y:Value} {g cap:Nat} (hy:w.ownsRow hi tP 4 y o.lines.length (o.lines.flatMap lnC)) (b:Below w.heap.size w w2)
  (ho:w'.ownsRow hi tO 6 (.slice (some ⟨g,0,none⟩) (l.length+1) cap) (l.length+1) (((List.range l.length).flatMap fun i=>ouC (Y i) (ouAt l i))++ouC y o)) (k:w2.grownBy w' v.ownBlock) (n1:tP≠tO):OuM tO tP hi w' (.slice (some ⟨g,0,none⟩) (l.length+1) cap) (l++[o]) (upd Y l.length y):=by
 have k1:=(Touch.of_below (F:=v.ownBlock.toList) b).trans (Touch.of_grown k) (fun x hx=> .inl hx)
 refine⟨?_,fun i hi'=> ?_⟩
 ·rw[show(l++[o]).length=l.length+1 by simp,List.range_succ,List.flatMap_append]
  have e1:(List.range l.length).flatMap (fun i=>ouC (upd Y l.length y i) (ouAt (l++[o]) i))=(List.range l.length).flatMap (fun i=>ouC (Y i) (ouAt l i)):=flat_congr (fun j hj=>by
   have:=List.mem_range.1 hj
   rw[ouAt_snoc]
   unfold upd
   rw[if_neg (by omega),if_neg (by omega)])
  have e2:[l.length].flatMap (fun i=>ouC (upd Y l.length y i) (ouAt (l++[o]) i))=ouC y o:=by
   show ouC (upd Y l.length y l.length) (ouAt (l++[o]) l.length)++[]=_
   rw[ouAt_snoc,List.append_nil]
   unfold upd
   rw[if_pos rfl,if_pos rfl]
  rw[e1,e2]
  exact ho
 ·rw[ouAt_snoc]
  unfold upd
  by_cases e:i=l.length
  ·rw[if_pos e,if_pos e]
   exact ownsRow_touch hy k1 (fun q hq hm=>own_apart hy h.row n1 hq (Option.mem_toList.1 hm))
  ·rw[if_neg e,if_neg e]
   rw[List.length_append] at hi'
   have hi2:i<l.length:=by simp at hi';omega
   exact ownsRow_touch (h.ln i hi2) k1 (fun q hq hm=>own_apart (h.ln i hi2) h.row n1 hq (Option.mem_toList.1 hm))
theorem OuM.in_ {tO tP:TypeId} {hi:Nat} {w:World} {a:Option Addr} {n c:Nat} {l:List OU} {Y:Nat→Value} (h:OuM tO tP hi w (.slice a n c) l Y) (hn:n=l.length):OuIn w w.heap.size a n l:=by
 subst hn
 refine⟨rfl, ?_⟩
 rcases Nat.eq_zero_or_pos l.length with h0|h0
 ·exact .inl h0
 ·obtain⟨g,cap,e⟩:=ownsRow_form h.row h0
  injection e with e1 e2 e3
  subst e1
  refine .inr ⟨g,0,rfl,(h.row.lt g rfl).2,fun i o hi'=> ?_⟩
  have hil:=(List.getElem?_eq_some_iff.1 hi').1
  have e4:ouAt l i=o:=by unfold ouAt;rw[List.getD_eq_getElem?_getD,hi'];rfl
  have hc:=fun j u (hu:(ouC (Y i) (ouAt l i))[j]? =some u)=>(addr_add0 g (i*6+j))▸h.row.cells (g:=g) rfl (j:=i*6+j) (u:=u) (flatMap_get (n:=6) (f:=fun i=>ouC (Y i) (ouAt l i)) (fun _=>rfl) (List.range l.length) i j i u (by rw[List.getElem?_range hil]) hu)
  have hl:=h.ln i hil
  rw[e4] at hc hl
  obtain⟨ya,yc,hy⟩:=own_form hl
  rw[hy] at hl
  have c0:=hc 0 _ rfl
  rw[hy] at c0
  simp only[Nat.zero_add]
  exact⟨⟨ya,yc,c0,lnIn_of_own hl rfl⟩,hc 1 _ rfl,hc 2 _ rfl,hc 3 _ rfl,hc 4 _ rfl,hc 5 _ rfl⟩
end Go.Proofs.Ythopjhifepijiaa
namespace Go.Proofs.Ythopjhifepijiaa
open Go.RowKit Go.Joins
open Go.Maps (Keyed)
structure RK (w Wc:World) (lo b0 bu bf mu:Nat):Prop where
 lw:w.heap.size≤bu∧w.heap.size≤bf∧w.heap.size≤mu∧w.heap.size≤b0
 up:bu<lo∧bf<lo∧mu<lo∧b0<lo
 ne:bu≠b0∧bf≠b0∧mu≠b0∧bu≠mu∧bf≠mu
 le:lo≤Wc.heap.size
structure RS (w Wc wr:World) (g:Int→Int) (lo b0 bu bf mu bs:Nat) (vo vr vi:Value) (rms:List RM) (ous:List OU) (inns:List (List Hf)) (H VI VA:Nat→Value) (ZI:Nat→List Value) (Y:Nat→Value) (Zn:List Value):Prop where
 k:RK w Wc lo b0 bu bf mu
 rl:RlM 41 33 3 (fun g=>lo≤g) Wc.heap.size bs wr vo rms H VI VA ZI
 ob: ∀b,vo.ownBlock=some b→b=b0∨Wc.heap.size≤b
 ou:OuM 155 156 Wc.heap.size wr vr ous Y
 io:wr.ownsRow Wc.heap.size 33 1 vi inns.length Zn
 ih:HdRs (fun g=>lo≤g) Wc.heap.size wr Zn inns
 ib: ∀b i c,vi.ownBlock=some b→(VI i).ownBlock=some c→b≠c
 fd: ∃up,FdIn wr w.heap.size bu bf mu 1024 up∧(∃rk,Fo rk up)∧ ∀a,Rt up a (g a)
 tch:Touch [mu,b0] Wc wr
section
variable {w Wc wr w2 w':World} {g:Int→Int} {lo b0 bu bf mu bs:Nat} {vo vr vi:Value} {rms:List RM} {ous:List OU} {inns:List (List Hf)} {H VI VA:Nat→Value} {ZI:Nat→List Value} {Y:Nat→Value} {Zn:List Value}
theorem RS.size (h:RS w Wc wr g lo b0 bu bf mu bs vo vr vi rms ous inns H VI VA ZI Y Zn):Wc.heap.size≤wr.heap.size:=h.tch.size
def RF (Wc:World) (b0:Nat) (F:List Nat):Prop:= ∀b∈F,b=b0∨Wc.heap.size≤b
theorem RS.hF (h:RS w Wc wr g lo b0 bu bf mu bs vo vr vi rms ous inns H VI VA ZI Y Zn) {F:List Nat} (hF:RF Wc b0 F): ∀b∈F, ¬lo≤b∨Wc.heap.size≤b:=fun b hb=>(hF b hb).imp (fun e=>by rw[e];exact Nat.not_le_of_lt h.k.up.2.2.2) id
theorem RS.fdT (h:RS w Wc wr g lo b0 bu bf mu bs vo vr vi rms ous inns H VI VA ZI Y Zn) {F:List Nat} (hF:RF Wc b0 F) (t:Touch F wr w'): ∃up,FdIn w' w.heap.size bu bf mu 1024 up∧(∃rk,Fo rk up)∧ ∀a,Rt up a (g a):=by
 obtain⟨up,hf,hr⟩:=h.fd
 have k:=h.k
 have no: ∀q,q<lo→q≠b0→q∉F:=fun q hq hne hm=>by
  rcases hF q hm with e|e
  ·exact hne e
  ·have:=k.le;omega
 exact⟨up,hf.touch t (no _ k.up.1 k.ne.1) (no _ k.up.2.1 k.ne.2.1) (no _ k.up.2.2.1 k.ne.2.2.1),hr⟩
theorem RS.tchT (h:RS w Wc wr g lo b0 bu bf mu bs vo vr vi rms ous inns H VI VA ZI Y Zn) {F:List Nat} (hF:RF Wc b0 F) (t:Touch F wr w'):Touch [mu,b0] Wc w':=h.tch.trans t (fun b hb=>(hF b hb).imp (fun e=>by simp[e]) id)
theorem RS.below (h:RS w Wc wr g lo b0 bu bf mu bs vo vr vi rms ous inns H VI VA ZI Y Zn) (b:Below wr.heap.size wr w'):RS w Wc w' g lo b0 bu bf mu bs vo vr vi rms ous inns H VI VA ZI Y Zn:=by
 have t:Touch [] wr w':=Touch.of_below b
 have hF:RF Wc b0 []:=fun b hb=>by simp at hb
 exact⟨h.k,h.rl.touch t h.size (by simp) (by simp) (by simp) (by simp),h.ob,h.ou.touch t (by simp) (by simp),ownsRow_touch h.io t (by simp),h.ih.touch t h.size (by simp),h.ib,h.fdT hF t,h.tchT hF t⟩
theorem RS.find (h:RS w Wc wr g lo b0 bu bf mu bs vo vr vi rms ous inns H VI VA ZI Y Zn) (a:Int) (ha:fitI a):
  Calls Try.prog 92 #[.int .i64 a, .pointer (some ⟨bu,0,none⟩), .pointer (some ⟨bf,0,none⟩)] wr fun e w'=>e= .returned (.int .i64 (g a))∧RS w Wc w' g lo b0 bu bf mu bs vo vr vi rms ous inns H VI VA ZI Y Zn∧Touch [mu] wr w':=by
 obtain⟨up,hf,⟨rk,fo⟩,hg⟩:=h.fd
 refine(find_any (by omega) (rk a+1) wr up a (g a) hf fo (hg a) (Nat.lt_succ_self _) ha).mono ?_
 rintro e w1 ⟨rfl,up1,f1,s1,d1,i1,t1⟩
 have k:=h.k
 have hs:=h.size
 have hm: ∀b∈[mu], ¬lo≤b∨Wc.heap.size≤b:=fun b hb=>by simp at hb;subst hb;exact .inl (Nat.not_le_of_lt k.up.2.2.1)
 have kle:=k.le
 have kup:=k.up.2.2.1
 refine⟨rfl,⟨k,h.rl.touch t1 hs hm (fun b hb hx=> ?_) (fun i b hb hx=> ?_) (fun i b hb hx=> ?_),h.ob,h.ou.low t1 (fun b hb=>by simp at hb;subst hb;omega),ownsRow_touch h.io t1 (fun b hb hx=> ?_),h.ih.touch t1 hs hm,h.ib,⟨up1,i1,⟨rk,f1⟩,fun a=>(s1 a _).1 (hg a)⟩,h.tch.trans t1 (fun b hb=>by simp at hb;subst hb;simp)⟩,t1⟩
 ·simp at hx;subst hx
  rcases h.ob b hb with e|e
  ·exact k.ne.2.2.1 e
  ·omega
 ·simp at hx;subst hx
  have:=((h.rl.fi.own i).lt b hb).1
  have:=h.rl.le
  omega
 ·simp at hx;subst hx
  have:=((h.rl.fa.own i).lt b hb).1
  have:=h.rl.le
  omega
 ·simp at hx;subst hx
  have:=(h.io.lt b hb).1
  omega
theorem RF.of_io (h:RS w Wc wr g lo b0 bu bf mu bs vo vr vi rms ous inns H VI VA ZI Y Zn):RF Wc b0 vi.ownBlock.toList:=fun b hb=> .inr (h.io.lt b (Option.mem_toList.1 hb)).1
theorem RF.of_ob (h:RS w Wc wr g lo b0 bu bf mu bs vo vr vi rms ous inns H VI VA ZI Y Zn):RF Wc b0 vo.ownBlock.toList:=fun b hb=>h.ob b (Option.mem_toList.1 hb)
theorem RF.of_ou (h:RS w Wc wr g lo b0 bu bf mu bs vo vr vi rms ous inns H VI VA ZI Y Zn):RF Wc b0 vr.ownBlock.toList:=fun b hb=> .inr (h.ou.row.lt b (Option.mem_toList.1 hb)).1
theorem RS.inner (h:RS w Wc wr g lo b0 bu bf mu bs vo vr vi rms ous inns H (fun _=> .slice none 0 0) (fun _=> .slice none 0 0) ZI Y Zn) {L:List Hf} {z:Value} {g2 cap2:Nat} (hz:HdR (fun g=>lo≤g) Wc.heap.size wr z L) (b:Below wr.heap.size wr w2)
  (ho:w'.ownsRow Wc.heap.size 33 1 (.slice (some ⟨g2,0,none⟩) (inns.length+1) cap2) (inns.length+1) (Zn++[z])) (k:w2.grownBy w' vi.ownBlock):
  RS w Wc w' g lo b0 bu bf mu bs vo vr (.slice (some ⟨g2,0,none⟩) (inns.length+1) cap2) rms ous (inns++[L]) H (fun _=> .slice none 0 0) (fun _=> .slice none 0 0) ZI Y (Zn++[z]):=by
 have k1:=(Touch.of_below (F:=vi.ownBlock.toList) b).trans (Touch.of_grown k) (fun x hx=> .inl hx)
 have hF:=RF.of_io h
 refine⟨h.k,h.rl.touch k1 h.size (h.hF hF) (fun b hb hm=>own_apart h.rl.row h.io (by decide) hb (Option.mem_toList.1 hm)) (fun i b hb=>(by cases hb)) (fun i b hb=>(by cases hb)),h.ob,h.ou.other k1 h.io (by decide) (by decide),by rw[List.length_append];exact ho,(h.ih.touch k1 h.size (h.hF hF)).snoc (hz.touch k1 h.size (h.hF hF)),fun b i c _ hc=>(by cases hc),h.fdT hF k1,h.tchT hF k1⟩
theorem RS.part (h:RS w Wc wr g lo b0 bu bf mu bs vo vr vi rms ous inns H VI VA ZI Y Zn) {L:List Hf} {z:Value} {g2 cap2:Nat} (hz:HdR (fun g=>lo≤g) Wc.heap.size wr z L) (b:Below wr.heap.size wr w2)
  (ho:w'.ownsRow 0 41 3 (.slice (some ⟨g2,0,none⟩) (rms.length+1) cap2) (rms.length+1) (((List.range rms.length).flatMap fun i=>[H i,VI i,VA i])++[z, .slice none 0 0, .slice none 0 0])) (k:w2.grownBy w' vo.ownBlock) (hat:vo.ownBlock=some g2∨w2.heap.size≤g2):
  RS w Wc w' g lo b0 bu bf mu bs (.slice (some ⟨g2,0,none⟩) (rms.length+1) cap2) vr vi (rms++[⟨L,[],[]⟩]) ous inns (upd H rms.length z) VI VA ZI Y Zn:=by
 have k1:=(Touch.of_below (F:=vo.ownBlock.toList) b).trans (Touch.of_grown k) (fun x hx=> .inl hx)
 have hF:=RF.of_ob h
 have hs:=h.size
 have hb:=b.size
 refine⟨h.k,h.rl.snoc hz h.size b ho k (by decide) (by decide) (fun b hb=>h.hF hF b (Option.mem_toList.2 hb)),fun q hq=> ?_,h.ou.other k1 h.rl.row (by decide) (by decide),ownsRow_touch h.io k1 (fun q hq hm=>own_apart h.io h.rl.row (by decide) hq (Option.mem_toList.1 hm)),h.ih.touch k1 h.size (h.hF hF),h.ib,h.fdT hF k1,h.tchT hF k1⟩
 cases hq
 rcases hat with e|e
 ·exact h.ob _ e
 ·exact .inr (by show Wc.heap.size≤g2;omega)
theorem RS.outer (h:RS w Wc wr g lo b0 bu bf mu bs vo vr vi rms ous inns H VI VA ZI Y Zn) {o:OU} {y:Value} {g2 cap2:Nat} (hy:wr.ownsRow Wc.heap.size 156 4 y o.lines.length (o.lines.flatMap lnC)) (b:Below wr.heap.size wr w2)
  (ho:w'.ownsRow Wc.heap.size 155 6 (.slice (some ⟨g2,0,none⟩) (ous.length+1) cap2) (ous.length+1) (((List.range ous.length).flatMap fun i=>ouC (Y i) (ouAt ous i))++ouC y o)) (k:w2.grownBy w' vr.ownBlock):
  RS w Wc w' g lo b0 bu bf mu bs vo (.slice (some ⟨g2,0,none⟩) (ous.length+1) cap2) vi rms (ous++[o]) inns H VI VA ZI (upd Y ous.length y) Zn:=by
 have k1:=(Touch.of_below (F:=vr.ownBlock.toList) b).trans (Touch.of_grown k) (fun x hx=> .inl hx)
 have hF:=RF.of_ou h
 refine⟨h.k,h.rl.touch k1 h.size (h.hF hF) (fun b hb hm=>own_apart h.rl.row h.ou.row (by decide) hb (Option.mem_toList.1 hm)) (fun i b hb hm=>own_apart (h.rl.fi.own i) h.ou.row (by decide) hb (Option.mem_toList.1 hm)) (fun i b hb hm=>own_apart (h.rl.fa.own i) h.ou.row (by decide) hb (Option.mem_toList.1 hm)),h.ob,h.ou.snoc hy b ho k (by decide),ownsRow_touch h.io k1 (fun q hq hm=>own_apart h.io h.ou.row (by decide) hq (Option.mem_toList.1 hm)),h.ih.touch k1 h.size (h.hF hF),h.ib,h.fdT hF k1,h.tchT hF k1⟩
end
end Go.Proofs.Ythopjhifepijiaa
namespace Go.Proofs.Ythopjhifepijiaa
open Go.RowKit Go.Joins
open Go.Maps (Keyed)
section
variable {w Wc wr w2 w':World} {g:Int→Int} {lo b0 bu bf mu bs gb cap:Nat} {vo vr vi:Value} {rms:List RM} {ous:List OU} {inns:List (List Hf)} {H VI VA:Nat→Value} {ZI:Nat→List Value} {Y:Nat→Value} {Zn:List Value}
theorem RS.rebase (h:RS w Wc wr g lo b0 bu bf mu bs vo vr vi rms ous inns H (fun _=> .slice none 0 0) (fun _=> .slice none 0 0) ZI Y Zn) {bs':Nat} (hb:Wc.heap.size≤bs'):RS w Wc wr g lo b0 bu bf mu bs' vo vr vi rms ous inns H (fun _=> .slice none 0 0) (fun _=> .slice none 0 0) ZI Y Zn:=
 ⟨h.k,h.rl.rebase hb,h.ob,h.ou,h.io,h.ih,fun b i c _ hc=>(by cases hc),h.fd,h.tch⟩
theorem RS.addI (h:RS w Wc wr g lo b0 bu bf mu bs (.slice (some ⟨gb,0,none⟩) rms.length cap) vr vi rms ous inns H VI VA ZI Y Zn) {i:Nat} (hi:i<rms.length) {L:List Hf} {z:Value} {g2 cap2:Nat} (hz:HdR (fun g=>lo≤g) Wc.heap.size wr z L) (b:Below wr.heap.size wr w2)
  (ho:w'.ownsRow bs 33 1 (.slice (some ⟨g2,0,none⟩) ((ZI i).length+1) cap2) ((ZI i).length+1) (ZI i++[z])) (k:w2.grownBy w' (VI i).ownBlock) (hat:(VI i).ownBlock=some g2∨w2.heap.size≤g2):
  RS w Wc (w'.setCell ⟨gb,i*3+1,none⟩ (.slice (some ⟨g2,0,none⟩) ((ZI i).length+1) cap2)) g lo b0 bu bf mu bs (.slice (some ⟨gb,0,none⟩) rms.length cap) vr vi (addI rms i L) ous inns H (upd VI i (.slice (some ⟨g2,0,none⟩) ((ZI i).length+1) cap2)) VA (upd ZI i (ZI i++[z])) Y Zn:=by
 have k1:=(Touch.of_below (F:=(VI i).ownBlock.toList) b).trans (Touch.of_grown k) (fun x hx=> .inl hx)
 have hF:RF Wc b0 (VI i).ownBlock.toList:=fun q hq=> .inr (Nat.le_trans h.rl.le ((h.rl.fi.own i).lt q (Option.mem_toList.1 hq)).1)
 have hgb:=h.ob gb rfl
 have hG:RF Wc b0 [gb]:=fun q hq=>by simp at hq;subst hq;exact hgb
 have row1:=ownsRow_touch h.rl.row k1 (fun x hx=>by cases hx;exact fun hm=>own_apart h.rl.row (h.rl.fi.own i) (by decide) (g:=gb) rfl (Option.mem_toList.1 hm))
 have k2:Touch [gb] w' (w'.setCell ⟨gb,i*3+1,none⟩ (.slice (some ⟨g2,0,none⟩) ((ZI i).length+1) cap2)):=(Touch.refl _ _).setCell (.inl (by simp)) _
 have hs1:Wc.heap.size≤w'.heap.size:=Nat.le_trans h.size k1.size
 have io1:=ownsRow_touch h.io k1 (fun q hq hm=>h.ib q i q hq (Option.mem_toList.1 hm) rfl)
 have ou1:=h.ou.other k1 (h.rl.fi.own i) (by decide) (by decide)
 have hbz:=b.size
 obtain⟨up,hf,hr⟩:=h.fdT hF k1
 have kk:=h.k
 have no: ∀q,q<lo→q≠b0→q∉ [gb]:=fun q hq hne hm=>by
  simp at hm;subst hm
  rcases hgb with e|e
  ·exact hne e
  ·have:=kk.le;omega
 refine⟨h.k,h.rl.addI hi hz h.size b ho k hat (by decide) (by decide) (by decide) (hgb.imp (fun e=>by rw[e];exact Nat.not_le_of_lt h.k.up.2.2.2) id),h.ob,ou1.other (x:= .slice (some ⟨gb,0,none⟩) rms.length cap) k2 row1 (by decide) (by decide),ownsRow_touch io1 k2 (fun q hq hm=>by simp at hm;subst hm;exact own_apart io1 row1 (by decide) hq rfl),(h.ih.touch k1 h.size (h.hF hF)).touch k2 hs1 (h.hF hG),fun q j c hq hc=> ?_,⟨up,hf.touch k2 (no _ kk.up.1 kk.ne.1) (no _ kk.up.2.1 kk.ne.2.1) (no _ kk.up.2.2.1 kk.ne.2.2.1),hr⟩,(h.tchT hF k1).trans k2 (fun q hq=>(hG q hq).imp (fun e=>by simp[e]) id)⟩
 unfold upd at hc
 by_cases e:j=i
 ·rw[if_pos e] at hc
  cases hc
  rcases hat with e2|e2
  ·exact h.ib q i _ hq e2
  ·have:=(h.io.lt q hq).2
   show q≠g2
   omega
 ·rw[if_neg e] at hc
  exact h.ib q j c hq hc
theorem RS.addA (h:RS w Wc wr g lo b0 bu bf mu bs (.slice (some ⟨gb,0,none⟩) rms.length cap) vr vi rms ous inns H VI VA ZI Y Zn) {i:Nat} (hi:i<rms.length) {id:Int} {g2 cap2:Nat} (b:Below wr.heap.size wr w2)
  (ho:w'.ownsRow bs 3 1 (.slice (some ⟨g2,0,none⟩) ((rmAt rms i).alone.length+1) cap2) ((rmAt rms i).alone.length+1) ((rmAt rms i).alone.map (Value.int .i64)++[.int .i64 id])) (k:w2.grownBy w' (VA i).ownBlock) (hat:(VA i).ownBlock=some g2∨w2.heap.size≤g2):
  RS w Wc (w'.setCell ⟨gb,i*3+2,none⟩ (.slice (some ⟨g2,0,none⟩) ((rmAt rms i).alone.length+1) cap2)) g lo b0 bu bf mu bs (.slice (some ⟨gb,0,none⟩) rms.length cap) vr vi (addA rms i id) ous inns H VI (upd VA i (.slice (some ⟨g2,0,none⟩) ((rmAt rms i).alone.length+1) cap2)) ZI Y Zn:=by
 have k1:=(Touch.of_below (F:=(VA i).ownBlock.toList) b).trans (Touch.of_grown k) (fun x hx=> .inl hx)
 have hF:RF Wc b0 (VA i).ownBlock.toList:=fun q hq=> .inr (Nat.le_trans h.rl.le ((h.rl.fa.own i).lt q (Option.mem_toList.1 hq)).1)
 have hgb:=h.ob gb rfl
 have hG:RF Wc b0 [gb]:=fun q hq=>by simp at hq;subst hq;exact hgb
 have row1:=ownsRow_touch h.rl.row k1 (fun x hx=>by cases hx;exact fun hm=>own_apart h.rl.row (h.rl.fa.own i) (by decide) (g:=gb) rfl (Option.mem_toList.1 hm))
 have k2:Touch [gb] w' (w'.setCell ⟨gb,i*3+2,none⟩ (.slice (some ⟨g2,0,none⟩) ((rmAt rms i).alone.length+1) cap2)):=(Touch.refl _ _).setCell (.inl (by simp)) _
 have hs1:Wc.heap.size≤w'.heap.size:=Nat.le_trans h.size k1.size
 have io1:=ownsRow_touch h.io k1 (fun q hq hm=>own_apart h.io (h.rl.fa.own i) (by decide) hq (Option.mem_toList.1 hm))
 have ou1:=h.ou.other k1 (h.rl.fa.own i) (by decide) (by decide)
 obtain⟨up,hf,hr⟩:=h.fdT hF k1
 have kk:=h.k
 have no: ∀q,q<lo→q≠b0→q∉ [gb]:=fun q hq hne hm=>by
  simp at hm;subst hm
  rcases hgb with e|e
  ·exact hne e
  ·have:=kk.le;omega
 exact⟨h.k,h.rl.addA hi h.size b ho k hat (by decide) (by decide) (by decide) (hgb.imp (fun e=>by rw[e];exact Nat.not_le_of_lt h.k.up.2.2.2) (fun h=>h)),h.ob,ou1.other (x:= .slice (some ⟨gb,0,none⟩) rms.length cap) k2 row1 (by decide) (by decide),ownsRow_touch io1 k2 (fun q hq hm=>by simp at hm;subst hm;exact own_apart io1 row1 (by decide) hq rfl),(h.ih.touch k1 h.size (h.hF hF)).touch k2 hs1 (h.hF hG),h.ib,⟨up,hf.touch k2 (no _ kk.up.1 kk.ne.1) (no _ kk.up.2.1 kk.ne.2.1) (no _ kk.up.2.2.1 kk.ne.2.2.1),hr⟩,(h.tchT hF k1).trans k2 (fun q hq=>(hG q hq).imp (fun e=>by simp[e]) (fun h=>h))⟩
end
section
variable {p:PL}
def idxI (p:PL) (g:Int→Int) (L:List Hf):Nat:=(1+aroundP ((orsP p).map (ouOf g)) (leastPt p L) (g (frA p L))).toNat
def idxA (p:PL) (g:Int→Int) (no:Int) (q:Pt):Nat:=(1+aroundP ((orsP p).map (ouOf g)) q no).toNat
def rmI (p:PL) (g:Int→Int) (j:Nat):List RM:=((innersP p).take j).foldl (fun l L=>addI l (idxI p g L) L) (base17 p)
def rmV (p:PL) (g:Int→Int) (no:Int) (j:Nat):List RM:=((p.vs.take j).filter fun v=>degB p.es v.id).foldl (fun l v=>addA l (idxA p g no v.at_) v.id) (rmI p g (innersP p).length)
theorem rmI_succ {g:Int→Int} {j:Nat} {L:List Hf} (h:(innersP p)[j]? =some L):rmI p g (j+1)=addI (rmI p g j) (idxI p g L) L:=by unfold rmI;rw[take_snoc' h,List.foldl_append];rfl
theorem rmI_len (g:Int→Int): ∀j,(rmI p g j).length=(outersP p).length+1
 |0=>by simp[rmI,base17]
 |j+1=>by
  by_cases h:j<(innersP p).length
  ·rw[rmI_succ (List.getElem?_eq_getElem h),len_addI,rmI_len g j]
  ·have e:rmI p g (j+1)=rmI p g j:=by unfold rmI;rw[List.take_of_length_le (by omega),List.take_of_length_le (by omega)]
   rw[e,rmI_len g j]
theorem rmV_yes {g:Int→Int} {no:Int} {j:Nat} {v:Vx} (h:p.vs[j]? =some v) (hd:degB p.es v.id=true):rmV p g no (j+1)=addA (rmV p g no j) (idxA p g no v.at_) v.id:=by
 unfold rmV
 rw[take_snoc' h,List.filter_append,List.foldl_append]
 simp[hd]
theorem rmV_no {g:Int→Int} {no:Int} {j:Nat} {v:Vx} (h:p.vs[j]? =some v) (hd:degB p.es v.id=false):rmV p g no (j+1)=rmV p g no j:=by
 unfold rmV
 rw[take_snoc' h,List.filter_append,List.foldl_append]
 simp[hd]
theorem rmV_len (g:Int→Int) (no:Int): ∀j,(rmV p g no j).length=(outersP p).length+1
 |0=>by simp[rmV,rmI_len]
 |j+1=>by
  by_cases h:j<p.vs.length
  ·cases hd:degB p.es p.vs[j].id
   ·rw[rmV_no (List.getElem?_eq_getElem h) hd,rmV_len g no j]
   ·rw[rmV_yes (List.getElem?_eq_getElem h) hd,len_addA,rmV_len g no j]
  ·have e:rmV p g no (j+1)=rmV p g no j:=by unfold rmV;rw[List.take_of_length_le (by omega),List.take_of_length_le (by omega)]
   rw[e,rmV_len g no j]
theorem rmV_done (g:Int→Int) (no:Int):rmV p g no p.vs.length=realmsP p g no:=by
 unfold rmV rmI realmsP
 rw[List.take_length,List.take_length]
 rfl
theorem idx_lt (g:Int→Int) (q:Pt) (b:Int):(1+aroundP ((orsP p).map (ouOf g)) q b).toNat<(outersP p).length+1∧(((1+aroundP ((orsP p).map (ouOf g)) q b).toNat:Nat):Int)=1+aroundP ((orsP p).map (ouOf g)) q b:=by
 have h:=around_bd ((orsP p).map (ouOf g)) q b
 have e:((orsP p).map (ouOf g)).length=(outersP p).length:=by simp[orsP]
 rw[e] at h
 omega
def leastK (p:PL) (L:List Hf) (t:Nat):Pt:=(L.take t).foldl (fun m h=>if lessB (ptH p h) m=true then ptH p h else m) (ptH p (headH L))
theorem leastK_succ {L:List Hf} {t:Nat} {h:Hf} (hh:L[t]? =some h):leastK p L (t+1)=if lessB (ptH p h) (leastK p L t)=true then ptH p h else leastK p L t:=by unfold leastK;rw[take_snoc' hh,List.foldl_append];rfl
theorem leastK_in (r:RightP p) {L:List Hf} (hm: ∀x∈L,x∈halvesE p.es) (hh:headH L∈halvesE p.es): ∀t,inB (leastK p L t)=true
 |0=>by simpa[leastK] using (r.half_pts hh).1
 |t+1=>by
  by_cases h:t<L.length
  ·rw[leastK_succ (List.getElem?_eq_getElem h)]
   split
   ·exact(r.half_pts (hm _ (List.getElem_mem h))).1
   ·exact leastK_in r hm hh t
  ·have e:leastK p L (t+1)=leastK p L t:=by unfold leastK;rw[List.take_of_length_le (by omega),List.take_of_length_le (by omega)]
   rw[e]
   exact leastK_in r hm hh t
theorem RightP.ous_ok (r:RightP p) (g:Int→Int): ∀o∈(orsP p).map (ouOf g),OuOk o:=fun o ho=>by
 unfold orsP at ho
 rw[List.map_map] at ho
 obtain⟨L,hL,rfl⟩:=List.mem_map.1 ho
 have hR:=(List.mem_filter.1 hL).1
 obtain⟨x,m,hring⟩:=r.rings.1 L hR
 have hi:=r.lines_in (fun y hy=>(hring.mem y hy).1)
 have hl:L.length≤2048:=by
  have h1:=nodup_len hring.nd (fun y hy=>(hring.mem y hy).1)
  rw[halves_len] at h1
  have:=r.ne
  omega
 exact⟨area_fits hi (by rw[List.length_map];omega),hi,by show(L.map (lineH p)).length≤_;rw[List.length_map];omega⟩
theorem deg_zero (es:List Ed) (id:Int):(deg es id=0)↔degB es id=true:=by
 unfold deg degB
 have key: ∀k,k≤es.length→(degA es id k=0↔ ∀i e,i<k→es[i]? =some e→e.a≠id∧e.b≠id):=by
  intro k
  induction k with
  |zero=>intro _;simp[degA]
  |succ k ih=>
   intro hk
   have h1:=degA_bd es id k
   have hx:=List.getElem?_eq_getElem (l:=es) (i:=k) (by omega)
   rw[degA_succ,hx]
   simp only
   constructor
   ·intro h
    have h2:degA es id k=0:=by split at h<;>split at h<;>omega
    intro i e hi he
    by_cases e1:i=k
    ·subst e1
     rw[hx] at he
     cases he
     constructor
     ·intro e3;rw[if_pos e3] at h;split at h<;>omega
     ·intro e3;rw[if_pos e3] at h;split at h<;>omega
    ·exact(ih (by omega)).1 h2 i e (by omega) he
   ·intro h
    have h2:=(ih (by omega)).2 (fun i e hi he=>h i e (by omega) he)
    have h3:=h k _ (by omega) hx
    rw[h2,if_neg h3.1,if_neg h3.2]
    rfl
 rw[key _ (Nat.le_refl _),Bool.not_eq_true',List.any_eq_false]
 constructor
 ·intro h e he
  obtain⟨i,hi⟩:=List.mem_iff_getElem?.1 he
  have:=h i e (List.getElem?_eq_some_iff.1 hi).1 hi
  simp[this.1,this.2]
 ·intro h i e _ hi
  have:=h e (List.mem_of_getElem? hi)
  simpa using this
end
end Go.Proofs.Ythopjhifepijiaa
namespace Go.Proofs.Ythopjhifepijiaa
open Go.RowKit Go.Joins
def NsIn (w:World) (B:Nat) (a:Option Addr) (n:Nat) (l:List Int):Prop:=n=l.length∧(n=0∨ ∃b off,a=some ⟨b,off,none⟩∧b<B∧ ∀(i:Nat) (v:Int),l[i]? =some v→w.cell? ⟨b,off+i,none⟩=some (.int .i64 v))
theorem NsIn.below {w w':World} {B:Nat} {a:Option Addr} {n:Nat} {l:List Int} (h:NsIn w B a n l) (k:Below B w w'):NsIn w' B a n l:=by
 obtain⟨h1,h2|⟨b,off,ha,hlt,hc⟩⟩:=h
 ·exact⟨h1, .inl h2⟩
 ·exact⟨h1, .inr ⟨b,off,ha,hlt,fun i v hv=>(k.cell (p:=⟨b,_,none⟩) hlt).trans (hc i v hv)⟩⟩
theorem NsIn.at_ {w:World} {B:Nat} {a:Option Addr} {n:Nat} {l:List Int} (h:NsIn w B a n l) {k:Nat} (hk:k<n): ∃b off x,a=some ⟨b,off,none⟩∧b<B∧l[k]? =some x∧w.cell? ⟨b,off+k,none⟩=some (.int .i64 x):=by
 obtain⟨h1,h2|⟨b,off,ha,hlt,hc⟩⟩:=h
 ·omega
 ·have hv:=List.getElem?_eq_getElem (l:=l) (i:=k) (by omega)
  exact⟨b,off,_,ha,hlt,hv,hc k _ hv⟩
structure RmAtC (w:World) (B b o:Nat) (r:RM) (oa:Option Addr) (oc:Nat) (ia:Option Addr) (ic:Nat) (la:Option Addr) (lc:Nat):Prop where
 c0:w.cell? ⟨b,o,none⟩=some (.slice oa r.outer.length oc)
 c1:w.cell? ⟨b,o+1,none⟩=some (.slice ia r.inner.length ic)
 c2:w.cell? ⟨b,o+1+1,none⟩=some (.slice la r.alone.length lc)
 outer:HsIn w B oa r.outer.length r.outer
 inner:RgIn w B ia r.inner.length r.inner
 alone:NsIn w B la r.alone.length r.alone
def RlIn (w:World) (B:Nat) (a:Option Addr) (n:Nat) (l:List RM):Prop:=n=l.length∧(n=0∨ ∃b off,a=some ⟨b,off,none⟩∧b<B∧ ∀(i:Nat) (r:RM),l[i]? =some r→ ∃oa oc ia ic la lc,RmAtC w B b (off+i*3) r oa oc ia ic la lc)
def RlKp (lo:Nat) (w:World) (a:Option Addr) (n:Nat) (l:List RM):Prop:= ∀(F:List Nat) (w2:World),Touch F w w2→(∀b∈F,b<lo)→RlIn w2 w2.heap.size a n l
theorem RlKp.in_ {lo:Nat} {w:World} {a:Option Addr} {n:Nat} {l:List RM} (h:RlKp lo w a n l):RlIn w w.heap.size a n l:=h [] w (Touch.refl _ _) (by simp)
theorem RgIn.below' {w w':World} {B:Nat} {a:Option Addr} {n:Nat} {L:List (List Hf)} (h:RgIn w B a n L) (k:Below B w w'):RgIn w' B a n L:=by
 obtain⟨h1,h2|⟨b,off,ha,hlt,hc⟩⟩:=h
 ·exact⟨h1, .inl h2⟩
 ·exact⟨h1, .inr ⟨b,off,ha,hlt,fun i R hR=>by
   obtain⟨a',c,e1,e2⟩:=hc i R hR
   exact⟨a',c,(k.cell (p:=⟨b,_,none⟩) hlt).trans e1,e2.below k⟩⟩⟩
theorem RmAtC.below {w w':World} {B b o:Nat} {r:RM} {oa ia la:Option Addr} {oc ic lc:Nat} (h:RmAtC w B b o r oa oc ia ic la lc) (k:Below B w w') (hb:b<B):RmAtC w' B b o r oa oc ia ic la lc:=
 ⟨(k.cell (p:=⟨b,_,none⟩) hb).trans h.c0,(k.cell (p:=⟨b,_,none⟩) hb).trans h.c1,(k.cell (p:=⟨b,_,none⟩) hb).trans h.c2,h.outer.below k,h.inner.below' k,h.alone.below k⟩
theorem RlIn.below {w w':World} {B:Nat} {a:Option Addr} {n:Nat} {l:List RM} (h:RlIn w B a n l) (k:Below B w w'):RlIn w' B a n l:=by
 obtain⟨h1,h2|⟨b,off,ha,hlt,hc⟩⟩:=h
 ·exact⟨h1, .inl h2⟩
 ·exact⟨h1, .inr ⟨b,off,ha,hlt,fun i r hr=>by
   obtain⟨oa,oc,ia,ic,la,lc,hh⟩:=hc i r hr
   exact⟨oa,oc,ia,ic,la,lc,hh.below k hlt⟩⟩⟩
theorem RlIn.at_ {w:World} {B:Nat} {a:Option Addr} {n:Nat} {l:List RM} (h:RlIn w B a n l) {k:Nat} (hk:k<n): ∃b off r oa oc ia ic la lc,a=some ⟨b,off,none⟩∧b<B∧l[k]? =some r∧RmAtC w B b (off+k*3) r oa oc ia ic la lc:=by
 obtain⟨h1,h2|⟨b,off,ha,hlt,hc⟩⟩:=h
 ·omega
 ·have hv:=List.getElem?_eq_getElem (l:=l) (i:=k) (by omega)
  obtain⟨oa,oc,ia,ic,la,lc,hh⟩:=hc k _ hv
  exact⟨b,off,_,oa,oc,ia,ic,la,lc,ha,hlt,hv,hh⟩
theorem HdR.in_ {lo:Nat→Prop} {hi:Nat} {w:World} {x:Value} {R:List Hf} (h:HdR lo hi w x R) (hw:hi≤w.heap.size): ∃a c,x= .slice a R.length c∧HsIn w w.heap.size a R.length R:=by
 rcases h with ⟨rfl,rfl⟩|⟨g,c,rfl,h1,h2,hs⟩
 ·exact⟨none,0,rfl,rfl, .inl rfl⟩
 ·exact⟨_,_,rfl,rfl, .inr ⟨g,0,rfl,by omega,hs⟩⟩
theorem RlM.in_ {tR tS tI:TypeId} {lo:Nat→Prop} {hi bs:Nat} {w:World} {a:Option Addr} {n c:Nat} {l:List RM} {H VI VA:Nat→Value} {ZI:Nat→List Value} (h:RlM tR tS tI lo hi bs w (.slice a n c) l H VI VA ZI) (hn:n=l.length) (hw:hi≤w.heap.size):RlIn w w.heap.size a n l:=by
 subst hn
 refine⟨rfl, ?_⟩
 rcases Nat.eq_zero_or_pos l.length with h0|h0
 ·exact .inl h0
 ·obtain⟨g,cap,e⟩:=ownsRow_form h.row h0
  injection e with e1 e2 e3
  subst e1
  refine .inr ⟨g,0,rfl,(h.row.lt g rfl).2,fun i r hi'=> ?_⟩
  have hil:=(List.getElem?_eq_some_iff.1 hi').1
  have e4:rmAt l i=r:=by unfold rmAt;rw[List.getD_eq_getElem?_getD,hi'];rfl
  have hc:=fun j u (hu:([H i,VI i,VA i]:List Value)[j]? =some u)=>(addr_add0 g (i*3+j))▸h.row.cells (g:=g) rfl (j:=i*3+j) (u:=u) (flatMap_get (n:=3) (f:=fun i=>[H i,VI i,VA i]) (fun _=>rfl) (List.range l.length) i j i u (by rw[List.getElem?_range hil]) hu)
  obtain⟨oa,oc,hH,ho⟩:=(h.hd i hil).in_ hw
  obtain⟨ia,ic,hI⟩:=own_form (h.fi.own i)
  obtain⟨la,lc,hA⟩:=own_form (h.fa.own i)
  have hz:=h.hin i
  rw[e4] at hH ho hz
  have hfa:=h.fa.own i
  have hfi:=h.fi.own i
  simp only[e4] at hA hfa
  rw[hz.1] at hI
  rw[hI,hz.1] at hfi
  rw[hA] at hfa
  simp only[Nat.zero_add]
  refine⟨oa,oc,ia,ic,la,lc, ?_, ?_, ?_,ho,⟨rfl, ?_⟩,⟨rfl, ?_⟩⟩
  ·exact hH▸hc 0 _ rfl
  ·exact hI▸hc 1 _ rfl
  ·exact hA▸hc 2 _ rfl
  ·rcases Nat.eq_zero_or_pos r.inner.length with k0|k0
   ·exact .inl k0
   ·obtain⟨q,cq,e⟩:=ownsRow_form hfi k0
    injection e with e1 e2 e3
    subst e1
    refine .inr ⟨q,0,rfl,(hfi.lt q rfl).2,fun j R hR=> ?_⟩
    have hjl:=(List.getElem?_eq_some_iff.1 hR).1
    have hzj:=List.getElem?_eq_getElem (l:=ZI i) (i:=j) (by rw[hz.1];exact hjl)
    obtain⟨xa,xc,ex,hx⟩:=(hz.2 j _ R hzj hR).in_ hw
    refine⟨xa,xc, ?_,hx⟩
    rw[Nat.zero_add]
    exact(addr_add0 q j)▸hfi.cells (g:=q) rfl (j:=j) (u:=_) (ex▸hzj)
  ·rcases Nat.eq_zero_or_pos r.alone.length with k0|k0
   ·exact .inl k0
   ·obtain⟨q,cq,e⟩:=ownsRow_form hfa k0
    injection e with e1 e2 e3
    subst e1
    refine .inr ⟨q,0,rfl,(hfa.lt q rfl).2,fun j v hv=> ?_⟩
    rw[Nat.zero_add]
    exact(addr_add0 q j)▸hfa.cells (g:=q) rfl (j:=j) (u:= .int .i64 v) (by rw[List.getElem?_map,hv];rfl)
theorem RightP.id_pos {p:PL} (r:RightP p) {id:Int} (h:IsV p id):0<id:=by
 obtain⟨v,hv,rfl⟩:=h
 obtain⟨i,hi⟩:=List.mem_iff_getElem?.1 hv
 have key: ∀i,i≤p.vs.length→0≤pid p.vs i:=by
  intro i
  induction i with
  |zero=>intro _;exact Int.le_refl _
  |succ k ih=>
   intro hk
   have hx:=List.getElem?_eq_getElem (l:=p.vs) (i:=k) (by omega)
   have h1:=(r.v k _ hx).rise
   have h2:=ih (by omega)
   show 0≤((p.vs[k]?).map (·.id)).getD 0
   rw[hx]
   show 0≤(p.vs[k]).id
   omega
 have:=(r.v i v hi).rise
 have:=key i (Nat.le_of_lt (List.getElem?_eq_some_iff.1 hi).1)
 omega
theorem RightP.conn_isV {p:PL} (r:RightP p) {a b:Int} (h:Conn (pairsE p.es) a b) (ha:IsV p a):IsV p b:=by
 induction h with
 |refl=>exact ha
 |fwd _ he _=>
  obtain⟨e,hm,h⟩:=List.mem_map.1 he
  cases h
  exact(r.isV_a hm).2
 |bwd _ he _=>
  obtain⟨e,hm,h⟩:=List.mem_map.1 he
  cases h
  exact(r.isV_a hm).1
theorem UF.no_zero {p:PL} {up:Int→Option Int} (u:UF (pairsE p.es) up) (r:RightP p) {g:Int→Int} (hg: ∀a,Rt up a (g a)): ∀id,IsV p id→g id≠0:=fun id hv=>by
 have:=r.id_pos (r.conn_isV ((u.iff (hg id) (hg id).self).1 rfl) hv)
 omega
theorem find_hit {α:Type} {f:α→Bool}: ∀ {l:List α} {k:Nat} {x:α},(∀y∈l.take k,f y=false)→l[k]? =some x→f x=true→l.find? f=some x
 | [],k,x,_,hx,_=>by simp at hx
 |y::l,0,x,_,hx,hf=>by
  simp at hx
  subst hx
  rw[List.find?_cons_of_pos hf]
 |y::l,k+1,x,h,hx,hf=>by
  rw[List.take_succ_cons] at h
  rw[List.find?_cons_of_neg (by rw[h y (by simp)];decide)]
  exact find_hit (k:=k) (fun z hz=>h z (List.mem_cons_of_mem _ hz)) (by simpa using hx) hf
end Go.Proofs.Ythopjhifepijiaa
namespace Go.Proofs.Ythopjhifepijiaa
open Go.RowKit Go.Joins
open Go.Maps (Keyed)
def oneB (gf:Hf→Option Int) (ga:Int→Option Int) (r:RM) (id:Int):Bool:=((hOf r).all fun h=>decide ((gf h).getD 0=id))&&r.alone.all fun v=>decide ((ga v).getD 0=id)
theorem oneB_ring {gf:Hf→Option Int} {ga:Int→Option Int} {r:RM} {id:Int} {h:Hf} (hm:h∈hOf r) (hn:(gf h).getD 0≠id):oneB gf ga r id=false:=by
 unfold oneB
 rw[Bool.and_eq_false_iff]
 exact .inl (List.all_eq_false.2 ⟨h,hm,by simpa using hn⟩)
theorem oneB_alone {gf:Hf→Option Int} {ga:Int→Option Int} {r:RM} {id:Int} {v:Int} (hm:v∈r.alone) (hn:(ga v).getD 0≠id):oneB gf ga r id=false:=by
 unfold oneB
 rw[Bool.and_eq_false_iff]
 exact .inr (List.all_eq_false.2 ⟨v,hm,by simpa using hn⟩)
theorem oneB_all {gf:Hf→Option Int} {ga:Int→Option Int} {r:RM} {id:Int} (h1: ∀h∈hOf r,(gf h).getD 0=id) (h2: ∀v∈r.alone,(ga v).getD 0=id):oneB gf ga r id=true:=by
 unfold oneB
 rw[Bool.and_eq_true]
 exact⟨List.all_eq_true.2 (fun h hm=>decide_eq_true (h1 h hm)),List.all_eq_true.2 (fun v hm=>decide_eq_true (h2 v hm))⟩
theorem rings_flat (r:RM):(r.outer::r.inner).flatten=hOf r:=rfl
theorem RgIn.vals {w:World} {B n:Nat} {a:Option Addr} {L:List (List Hf)} (h:RgIn w B a n L) (hn:0<n): ∃b off,a=some ⟨b,off,none⟩∧b<B∧ ∃Z:List Value,Z.length=n∧(∀j u,Z[j]? =some u→w.cell? ⟨b,off+j,none⟩=some u)∧(∀u∈Z,u.oneCell'=true)∧ ∀(i:Nat) (R:List Hf),L[i]? =some R→ ∃a' c,Z[i]? =some (.slice a' R.length c)∧HsIn w B a' R.length R:=by
 obtain⟨h1,h2|⟨b,off,e,hb,hs⟩⟩:=h
 ·omega
 ·have key: ∀i,i<n→ ∃R a' c,L[i]? =some R∧w.cell? ⟨b,off+i,none⟩=some (.slice a' R.length c)∧HsIn w B a' R.length R:=fun i hi=>by
   have hx:=List.getElem?_eq_getElem (l:=L) (i:=i) (by omega)
   obtain⟨a',c,h3,h4⟩:=hs i _ hx
   exact⟨_,a',c,hx,h3,h4⟩
  refine⟨b,off,e,hb,(List.range n).map fun i=>(w.cell? ⟨b,off+i,none⟩).getD (.slice none 0 0),by simp,fun j u hu=> ?_,fun u hu=> ?_,fun i R hi=> ?_⟩
  ·rw[List.getElem?_map] at hu
   by_cases hj:j<n
   ·rw[List.getElem?_range hj] at hu
    obtain⟨R,a',c, -,h3, -⟩:=key j hj
    simp only[Option.map_some,h3,Option.getD_some,Option.some.injEq] at hu
    rw[h3,hu]
   ·rw[List.getElem?_eq_none (by simp;omega)] at hu
    simp at hu
  ·obtain⟨i,hi,rfl⟩:=List.mem_map.1 hu
   obtain⟨R,a',c, -,h3, -⟩:=key i (List.mem_range.1 hi)
   rw[h3]
   rfl
  ·have hl:=(List.getElem?_eq_some_iff.1 hi).1
   obtain⟨a',c,h3,h4⟩:=hs i R hi
   refine⟨a',c, ?_,h4⟩
   rw[List.getElem?_map,List.getElem?_range (by omega)]
   simp[h3]
theorem own_rg {w1 w:World} {base n c:Nat} {a:Option Addr} {t:TypeId} {Z:List Value} {L:List (List Hf)} (h:w.ownsRow base t 1 (.slice a n c) n Z) (hn:n=L.length) (hb:Below w1.heap.size w1 w) (hs: ∀(i:Nat) (R:List Hf),L[i]? =some R→ ∃a' c,Z[i]? =some (.slice a' R.length c)∧HsIn w1 w1.heap.size a' R.length R):RgIn w w.heap.size a n L:=by
 refine⟨hn, ?_⟩
 rcases Nat.eq_zero_or_pos n with h0|h0
 ·exact .inl h0
 ·obtain⟨g,cap,e⟩:=ownsRow_form h h0
  injection e with e1 e2 e3
  subst e1
  refine .inr ⟨g,0,rfl,(h.lt g rfl).2,fun i R hi=> ?_⟩
  obtain⟨a',c',h1,h2⟩:=hs i R hi
  have hc:=(addr_add0 g i)▸h.cells (g:=g) rfl (j:=i) (u:= .slice a' R.length c') h1
  exact⟨a',c',by simpa using hc,(h2.below hb).mono hb.size⟩
theorem RgIn.row9 {w:World} {B n:Nat} {a:Option Addr} {L:List (List Hf)} (h:RgIn w B a n L) (hn:0<n): ∃b off,a=some ⟨b,off,none⟩∧b<B∧ ∀i R,L[i]? =some R→ ∃a' c, ∀w',Below B w w'→w'.cell? ⟨b,off+i,none⟩=some (.slice a' R.length c)∧HsIn w' B a' R.length R:=by
 obtain⟨h1,h2|⟨b,off,e,hb,hs⟩⟩:=h
 ·omega
 ·refine⟨b,off,e,hb,fun i R hi=> ?_⟩
  obtain⟨a',c,hc,hr⟩:=hs i R hi
  exact⟨a',c,fun w' k=>⟨(k.cell (p:=⟨b,_,none⟩) hb).trans hc,hr.below k⟩⟩
theorem HsIn.row9 {w:World} {B:Nat} {a:Option Addr} {n:Nat} {R:List Hf} (h:HsIn w B a n R) (hn:0<n): ∃b off,a=some ⟨b,off,none⟩∧b<B∧ ∀w',Below B w w'→ ∀i x,R[i]? =some x→
  w'.cell? ⟨b,off+i*2,none⟩=some (.int .i64 x.edge)∧w'.cell? ⟨b,off+i*2+1,none⟩=some (.bool x.back):=by
 obtain⟨h1,h2|⟨b,off,ha,hlt,hc⟩⟩:=h
 ·omega
 ·exact⟨b,off,ha,hlt,fun w' hb i x hx=>⟨(hb.cell (p:=⟨b,_,none⟩) hlt).trans (hc i x hx).1,(hb.cell (p:=⟨b,_,none⟩) hlt).trans (hc i x hx).2⟩⟩
theorem NsIn.row9 {w:World} {B:Nat} {a:Option Addr} {n:Nat} {l:List Int} (h:NsIn w B a n l) (hn:0<n): ∃b off,a=some ⟨b,off,none⟩∧b<B∧ ∀w',Below B w w'→ ∀i x,l[i]? =some x→w'.cell? ⟨b,off+i,none⟩=some (.int .i64 x):=by
 obtain⟨h1,h2|⟨b,off,ha,hlt,hc⟩⟩:=h
 ·omega
 ·exact⟨b,off,ha,hlt,fun w' hb i v hv=>(hb.cell (p:=⟨b,_,none⟩) hlt).trans (hc i v hv)⟩
theorem run_append_zero {P:Program} (w:World) (t ty e:TypeId) (i:TypeInfo) (ht:P.underlying t=some (.slice e)) (hi:P.info? e=some i) (g n cap:Nat) (b:Option Addr) (c:Nat) (hroom:n≤cap):
  (Builtin.append_ #[t,t] ty #[.slice (some ⟨g,0,none⟩) n cap, .slice b 0 c]).run P w= .ok (.slice (some ⟨g,0,none⟩) n cap) w:=by
 cases b with
 |none=>simp[Builtin.append_,run_underlying ht,sizeOf,typeInfo,hi,Builtin.lenOf,hroom,Builtin.firstCells,storeCells]
 |some a=>
  have hf:=run_firstCells_some (P:=P) w i.size 0 a 0 c [] (by simp) (fun j u h=>by simp at h)
  simp[Builtin.append_,run_underlying ht,sizeOf,typeInfo,hi,Builtin.lenOf,hroom,hf,storeCells]
theorem wpList_append_run9 {P:Program} (w:World) {ops:Array Oper} {rest:List Oper} {o:Oper} {a:Act} {Q:Exit→Act→World→Prop} (hgd:o.guard=none) (s x:Operand) (t:TypeId)
  (ho:o.op= .call { callee:= .builtin .append,args:= #[s,x],argTypes:= #[t,t] }) (v u:Value) (hs:a.eval s=v) (hx:a.eval x=u) {v':Value} {w':World}
  (hr:(Builtin.append_ #[t,t] o.type #[v,u]).run P w= .ok v' w') (h:wpList P ops Q rest (a.put o.dst v') w'):wpList P ops Q (o::rest) a w:=
 wpList_plain hgd fun _ hK=>Lib.wp_append_run w s x t t ho v u hs hx v' w' hr (hK _ _ h)
theorem addr_add (b off j:Nat):(⟨b,off,none⟩:Addr).add j=⟨b,off+j,none⟩:=by unfold Addr.add;split<;>simp_all
set_option maxRecDepth 100000 in
set_option maxHeartbeats 8000000 in
theorem one_any {w:World} {B fb ab nf na oc ic lc:Nat} {oa ia la:Option Addr} {gf:Hf→Option Int} {ga:Int→Option Int} {r:RM} (ho:HsIn w B oa r.outer.length r.outer) (hi:RgIn w B ia r.inner.length r.inner) (hl:NsIn w B la r.alone.length r.alone) (hB:B≤w.heap.size)
  (hlim:r.inner.length≤5000) (hlr: ∀R∈r.outer::r.inner,R.length≤100000) (hla:r.alone.length≤100000) (hf:MapT w Try.prog 45 fb nf ekH ekI gf) (ha:MapT w Try.prog 3 ab na ekI ekI ga) (hfit: ∀h∈hOf r,fitI h.edge) (hfita: ∀v∈r.alone,fitI v) (id:Int):
  Calls Try.prog 66 #[.agg #[.slice oa r.outer.length oc, .slice ia r.inner.length ic, .slice la r.alone.length lc], .int .i64 id, .map (some fb), .map (some ab)] w fun e w'=>e= .returned (.bool (oneB gf ga r id))∧Below w.heap.size w w':=by
 have HO:=Lib.hid ho
 have HI:=Lib.hid hi
 have HA:=Lib.hid hl
 have HMF:=Lib.hid hf
 have HMA:=Lib.hid ha
 have HFT:=Lib.hid hfit
 have HFA:=Lib.hid hfita
 obtain⟨j0,hj0,hy0,hy1,hy2⟩:=info_parts Try.infoHs
 have HLR:=Lib.hid hlr
 clear ho hi hl hf ha hfit hfita hlr
 go_enter Try.func66,Try.ntmps66
 go_upto_region 1 with fail
 first|refine wp_name (fun W hW=> ?_)|refine calls_name (fun W hW=> ?_)
 have HW:Hid (Below w.heap.size w W):=Lib.hid (by rw[←hW];repeat (first|exact Below.refl _ _|refine below_alloc ?_))
 have HWs:Hid (W.heap.size=w.heap.size+1):=Lib.hid (by rw[←hW];simp)
 have HBW:Hid (W.heap.size≤W.heap.size):=Lib.hid (by have:=HWs.out;omega)
 have HC:=fun(W1:World) (hb:Below (W.heap.size) W W1)=>Lib.hid (show W1.cell? ⟨w.heap.size,0,none⟩=some (.slice oa r.outer.length oc)∧W1.cell? ⟨w.heap.size,1,none⟩=some (.slice ia r.inner.length ic)∧W1.cell? ⟨w.heap.size,2,none⟩=some (.slice la r.alone.length lc) from by have hs:=HWs.out;refine⟨?_, ?_, ?_⟩<;>(refine(hb.cell (by dsimp only;omega)).trans ?_;rw[←hW];clear hW;go_simp))
 have HB:=Lib.hid (Below.refl (W.heap.size) W)
 clear hW
 have HZ:=fun(W1:World) (hb:W.heap.size≤W1.heap.size)=>Lib.hid (show w.heap.size<W1.heap.size from by have:=HWs.out;omega)
 obtain⟨qx0,qx1,qx2⟩:=(HC _ HB.out).out
 have rx0:=(HZ _ HB.out.size).out
 obtain⟨M,hM⟩: ∃M,M=(r.outer::r.inner).length:=⟨_,rfl⟩
 have HM:=Lib.hid hM
 have hM2:M=1+r.inner.length:=by rw[hM,List.length_cons,Nat.add_comm]
 go_cut [20,21,22] (fun v20 v21 v22 wx=> ∃a cap,v20= .slice a M cap∧v21= .int .i64 M∧v22= .int .i64 0∧RgIn wx wx.heap.size a M (r.outer::r.inner)∧Below W.heap.size W wx)
 case first=>
  rcases Nat.eq_zero_or_pos r.inner.length with h0|h0
  ·have hin:r.inner=[]:=List.eq_nil_of_length_eq_zero h0
   obtain rfl:M=1:=by omega
   have HN0:=Lib.hid (show∀wx:World,Below W.heap.size W wx→wx.ownsRow 0 33 1 (.slice (some ⟨W.heap.size,0,none⟩) 1 1) 1 [.slice oa r.outer.length oc]→RgIn wx wx.heap.size (some ⟨W.heap.size,0,none⟩) 1 (r.outer::r.inner) from fun wx hb h=>own_rg h HM.out hb (fun i R hR=>by
    rw[hin] at hR
    rcases i with _|i
    ·simp at hR
     subst hR
     exact⟨oa,oc,rfl,(HO.out.below (HW.out.mono hB)).mono (Nat.le_trans hB HW.out.size)⟩
    ·simp at hR))
   rw[h0] at qx1
   clear hM2 hin h0 hM
   have HAZ:=fun w' ty=>Lib.hid (run_append_zero (P:=Try.prog) w' 38 ty 33 j0 Try.underlying38 hj0 W.heap.size 1 1 ia ic (Nat.le_refl _))
   go_wp2_with (at_builtin;go_loud (refine wpList_append_run9 _ rfl (.tmp 17) (.tmp 19) 38 rfl _ _ rfl rfl (HAZ _ _).out ?_))
   go_meet
   refine⟨_,_,rfl,rfl,rfl,HN0.out _ ?_ (own_alloc W 0 1 1 33 [.slice oa r.outer.length oc] (Nat.zero_le _) rfl (by decide)), ?_⟩
   all_goals exact(Below.refl _ _).alloc (Nat.le_refl _) _
  ·obtain⟨b,off,rfl,hb,Z,hz1,hz2,hz3,hz4⟩:=HI.out.vals h0
   have HZ2:=Lib.hid hz2
   have HZ3:=Lib.hid hz3
   have HZ4:=Lib.hid hz4
   have HZ1:=Lib.hid hz1
   have HBL:=Lib.hid hb
   have hlimM:M≤5001:=by omega
   have HOS:=Lib.hid (show HsIn W W.heap.size oa r.outer.length r.outer from(HO.out.below (HW.out.mono hB)).mono (Nat.le_trans hB HW.out.size))
   have HRO:=Lib.hid (show∀(wx:World) (g cap:Nat),Below W.heap.size W wx→wx.ownsRow W.heap.size 33 1 (.slice (some ⟨g,0,none⟩) (1+r.inner.length) cap) (1+r.inner.length) ([.slice oa r.outer.length oc]++Z)→RgIn wx wx.heap.size (some ⟨g,0,none⟩) (1+r.inner.length) (r.outer::r.inner) from fun wx g cap hb h=>own_rg h (by rw[List.length_cons,Nat.add_comm]) hb (fun i R hR=>by
    rcases i with _|i
    ·simp at hR
     subst hR
     exact⟨oa,oc,rfl,HOS.out⟩
    ·obtain⟨a',c',h1,h2⟩:=HZ4.out i R (by simpa using hR)
     exact⟨a',c',by simpa using h1,(h2.below (HW.out.mono hB)).mono (Nat.le_trans hB HW.out.size)⟩))
   have HM2:=Lib.hid hM2
   clear hM2 hM
   have HCZ:=Lib.hid (show∀j u,Z[j]? =some u→(W.alloc (.cells #[.slice oa r.outer.length oc] 33)).cell? ((⟨b,off,none⟩:Addr).add j)=some u from fun j u hu=>by
    have hbw:b<w.heap.size:=Nat.lt_of_lt_of_le HBL.out hB
    rw[addr_add]
    exact(((Below.refl W.heap.size W).alloc (Nat.le_refl _) (.cells #[.slice oa r.outer.length oc] 33)).cell (p:=⟨b,off+j,none⟩) (show b<W.heap.size from Nat.lt_of_lt_of_le hbw HW.out.size)).trans ((HW.out.cell (p:=⟨b,off+j,none⟩) hbw).trans (HZ2.out j u hu)))
   go_wp2_with (at_builtin;go_loud (refine wpList_append_near _ rfl (.tmp 17) (.tmp 19) 38 rfl W.heap.size 33 j0 (.slice none 0 0) 1 24 Try.underlying38 hj0 hy0 hy1 hy2 rfl (by decide) (.slice (some ⟨W.heap.size,0,none⟩) 1 1) 1 [.slice oa r.outer.length oc] rfl (own_alloc W W.heap.size 1 1 33 [.slice oa r.outer.length oc] (Nat.le_refl _) rfl (by decide)) ⟨b,off,none⟩ r.inner.length ic Z rfl h0 (by rw[HZ1.out,Nat.mul_one]) HCZ.out HZ3.out (by unfold maxLen;omega) (by omega) (by simp) ?_;intro g9 cap9 w9 hown hgr hat;have HB9:=Lib.hid (((Below.refl W.heap.size W).alloc (Nat.le_refl _) (.cells #[.slice oa r.outer.length oc] 33)).grown hgr (by simp) (fun z hz=>by cases hz;exact Nat.le_refl _));have HRG:=Lib.hid (HRO.out _ _ _ HB9.out hown);clear hown hgr hat))
   go_meet
   refine⟨_,_,by rw[HM2.out], ?_,rfl,by rw[HM2.out];exact HRG.out,HB9.out⟩
   rw[HM2.out]
   simp
 case rest=>
 obtain⟨ma,mcap,rfl,rfl,rfl,hrg,hb⟩:=hcut
 obtain⟨wn,rfl⟩: ∃x:World,x=wc:=⟨_,rfl⟩
 have HRG:=Lib.hid hrg
 have HB:=Lib.hid hb
 have HXN:=Lib.hid (HW.out.trans (hb.mono HW.out.size))
 have hMb:M≤5001:=by omega
 clear hrg hb hM hM2
 clear qx0 qx1 qx2 rx0
 have HMP:=fun(W1:World) (hb:Below w.heap.size w W1) (h:Hf) (hm:h∈hOf r)=>Lib.hid (show(Instr.lookup 114 (.map (some fb)) (ekH h) false).run Try.prog W1= .ok (.int .i64 ((gf h).getD 0)) W1 from by
  rw[(HMF.out.below hb).look Try.keyHalf Try.underlying114 (zeroInt W1) (key_h (HFT.out h hm))]
  cases gf h<;>rfl)
 have HMQ:=fun(W1:World) (hb:Below w.heap.size w W1) (v:Int) (hm:v∈r.alone)=>Lib.hid (show(Instr.lookup 138 (.map (some ab)) (.int .i64 v) false).run Try.prog W1= .ok (.int .i64 ((ga v).getD 0)) W1 from by
  rw[show(Value.int .i64 v)=ekI v from rfl,(HMA.out.below hb).look Try.keyInt Try.underlying138 (zeroInt W1) (key_i (HFA.out v hm))]
  cases ga v<;>rfl)
 go_wp2_with fail
 go_loopw [22] (fun v wr=> ∃k:Nat,k≤M∧v= .int .i64 k∧(∀h∈((r.outer::r.inner).take k).flatten,(gf h).getD 0=id)∧Below wn.heap.size wn wr) (fun v _=>M - (intOf v).toNat)
 case atStart=>exact⟨0,Nat.zero_le _,rfl,fun h hh=>by simp at hh,Below.refl _ _⟩
 case round=>
  obtain⟨k,hk,rfl,hall,hb⟩:=hrel
  obtain⟨wq,rfl⟩: ∃x:World,x=wr:=⟨_,rfl⟩
  have HBQ:=Lib.hid hb
  have HAQ:=Lib.hid hall
  clear hb hall
  by_cases hlt:k<M
  ·obtain⟨R,hR⟩: ∃R,(r.outer::r.inner)[k]? =some R:=⟨_,List.getElem?_eq_getElem (by have:=HM.out;omega)⟩
   have HRK:=Lib.hid hR
   obtain⟨lb,loff,rfl,hlb,hcl⟩:=HRG.out.row9 (by omega)
   obtain⟨ra,rc,hrw⟩:=hcl k R hR
   have hmR: ∀h∈R,h∈hOf r:=fun h hh=>by rw[←rings_flat];exact List.mem_flatten.2 ⟨R,List.mem_of_getElem? hR,hh⟩
   have HMR:=Lib.hid hmR
   have hmb:=HLR.out R (List.mem_of_getElem? hR)
   have c0:=(hrw wq HBQ.out).1
   obtain⟨m,hm⟩: ∃m,m=R.length:=⟨_,rfl⟩
   have HML:=Lib.hid hm
   have HRW:=Lib.hid (show∀W1,Below wn.heap.size wn W1→HsIn W1 wn.heap.size ra m R from fun W1 hb=>hm▸(hrw W1 hb).2)
   rw[←hm] at c0 hmb
   clear hR hcl hrw hm hmR
   go_wp2_with fail
   go_loopw [28] (fun v wi=> ∃i:Nat,i≤m∧v= .int .i64 i∧(∀h∈R.take i,(gf h).getD 0=id)∧Below wn.heap.size wn wi) (fun v _=>m - (intOf v).toNat)
   case atStart=>exact⟨0,Nat.zero_le _,rfl,fun h hh=>by simp at hh,HBQ.out⟩
   case round=>
    clear HBQ c0
    obtain⟨i,hi,rfl,hall,hb⟩:=hrel
    obtain⟨wi,rfl⟩: ∃x:World,x=wr:=⟨_,rfl⟩
    have HBQ:=Lib.hid hb
    have HAI:=Lib.hid hall
    clear hb hall
    by_cases hlm:i<m
    ·obtain⟨h,hh⟩: ∃h,R[i]? =some h:=⟨_,List.getElem?_eq_getElem (by have:=HML.out;omega)⟩
     have HHI:=Lib.hid hh
     obtain⟨rb,roff,rfl,hrb,hcc⟩:=(HRW.out wi HBQ.out).row9 (by omega)
     obtain⟨c0,c1⟩:=hcc wi (Below.refl _ _) i h hh
     have HX9:=Lib.hid (below_alloc (o:= .cells #[.int .i64 h.edge, .bool h.back] 45) (HXN.out.trans (HBQ.out.mono HXN.out.size)))
     have lk:=(HMP _ HX9.out h (HMR.out h (List.mem_of_getElem? hh))).out
     unfold ekH at lk
     have HBN:=Lib.hid (HBQ.out.alloc HBQ.out.size (.cells #[.int .i64 h.edge, .bool h.back] 45))
     obtain⟨fv,hfv⟩: ∃fv,fv=(gf h).getD 0:=⟨_,rfl⟩
     have HFV:=Lib.hid hfv
     rw[←hfv] at lk
     clear hh hcc hfv
     by_cases hq:fv=id
     ·have hq2:(fv==id)=true:=by simpa using hq
      have HQ:=Lib.hid hq
      clear hq
      go_wp2_with fail
      go_roundw
      case rel=>
       refine⟨i+1,by omega,by go_num,fun y hy=> ?_,HBN.out⟩
       rw[take_snoc' HHI.out] at hy
       rcases List.mem_append.1 hy with hy|hy
       ·exact HAI.out y hy
       ·simp at hy
        subst hy
        rw[←HFV.out];exact HQ.out
      case measure=>simp[intOf];omega
     ·have hq2:(fv==id)=false:=by simpa using hq
      have F:=Lib.hid (oneB_ring (gf:=gf) (ga:=ga) (id:=id) (HMR.out h (List.mem_of_getElem? HHI.out)) (by rw[←HFV.out];exact hq))
      clear hq
      go_wp2_with fail
      go_ret
      exact⟨by rw[F.out];rfl,HX9.out⟩
    ·have HA9:=Lib.hid (show∀h∈((r.outer::r.inner).take (k+1)).flatten,(gf h).getD 0=id from fun y hy=>by
      rw[take_snoc' HRK.out,List.flatten_append] at hy
      rcases List.mem_append.1 hy with hy|hy
      ·exact HAQ.out y hy
      ·exact HAI.out y (by rw[List.take_of_length_le (by have:=HML.out;omega)];simpa using hy))
     go_wp2_with fail
     go_roundw
     case rel=>exact⟨k+1,by omega,by go_num,HA9.out,HBQ.out⟩
     case measure=>simp[intOf];omega
  ·have HAL:=Lib.hid (show∀h∈hOf r,(gf h).getD 0=id from fun h hh=>HAQ.out h (by rw[List.take_of_length_le (by have:=HM.out;omega),rings_flat];exact hh))
   have HB:=Lib.hid (HB.out.trans (HBQ.out.mono HB.out.size))
   clear HAQ
   obtain⟨qx0,qx1,qx2⟩:=(HC _ HB.out).out
   have rx0:=(HZ _ HB.out.size).out
   obtain⟨m,hm⟩: ∃m,m=r.alone.length:=⟨_,rfl⟩
   have HML:=Lib.hid hm
   rw[←hm] at qx2
   have hnl:NsIn w B la m r.alone:=hm▸HA.out
   rw[←hm] at hla
   have HNL:=Lib.hid hnl
   clear hm hnl
   go_wp2_with fail
   clear qx0 qx1 qx2 rx0
   go_loopw [42] (fun v wi=> ∃i:Nat,i≤m∧v= .int .i64 i∧(∀y∈r.alone.take i,(ga y).getD 0=id)∧Below wn.heap.size wn wi) (fun v _=>m - (intOf v).toNat)
   case atStart=>exact⟨0,Nat.zero_le _,rfl,fun h hh=>by simp at hh,HBQ.out⟩
   case round=>
    clear HBQ HB
    obtain⟨i,hi,rfl,hall,hb⟩:=hrel
    obtain⟨wi,rfl⟩: ∃x:World,x=wr:=⟨_,rfl⟩
    have HBQ:=Lib.hid hb
    have HAI:=Lib.hid hall
    have HXI:=Lib.hid (HXN.out.trans (hb.mono HXN.out.size))
    clear hb hall
    by_cases hlm:i<m
    ·obtain⟨v,hv⟩: ∃v,r.alone[i]? =some v:=⟨_,List.getElem?_eq_getElem (by have:=HML.out;omega)⟩
     have HVI:=Lib.hid hv
     obtain⟨rb,roff,rfl,hrb,hcc⟩:=HNL.out.row9 (by omega)
     have c0:=hcc wi (HXI.out.mono hB) i v hv
     have lk:=(HMQ _ HXI.out v (List.mem_of_getElem? hv)).out
     obtain⟨fv,hfv⟩: ∃fv,fv=(ga v).getD 0:=⟨_,rfl⟩
     have HFV:=Lib.hid hfv
     rw[←hfv] at lk
     clear hv hcc hfv
     by_cases hq:fv=id
     ·have hq2:(fv==id)=true:=by simpa using hq
      have HQ:=Lib.hid hq
      clear hq
      go_wp2_with fail
      go_roundw
      case rel=>
       refine⟨i+1,by omega,by go_num,fun y hy=> ?_,HBQ.out⟩
       rw[take_snoc' HVI.out] at hy
       rcases List.mem_append.1 hy with hy|hy
       ·exact HAI.out y hy
       ·simp at hy
        subst hy
        rw[←HFV.out];exact HQ.out
      case measure=>simp[intOf];omega
     ·have hq2:(fv==id)=false:=by simpa using hq
      have F:=Lib.hid (oneB_alone (gf:=gf) (ga:=ga) (id:=id) (List.mem_of_getElem? HVI.out) (by rw[←HFV.out];exact hq))
      clear hq
      go_wp2_with fail
      go_ret
      exact⟨by rw[F.out];rfl,HXI.out⟩
    ·have F:=Lib.hid (oneB_all (ga:=ga) HAL.out (fun v hv=>HAI.out v (by rw[List.take_of_length_le (by have:=HML.out;omega)];exact hv)))
     go_wp2_with fail
     go_ret
     exact⟨by rw[F.out];rfl,HXI.out⟩
end Go.Proofs.Ythopjhifepijiaa
