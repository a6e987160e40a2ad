/- Lemmas on the way to the statement. -/
import Derived.Test.YthopjhifepijiaaGreatJ18
set_option linter.unusedSimpArgs false
set_option linter.unusedVariables false
namespace Go.Proofs.YthopjhifepijiaaGreat
open Go.RowKit Go.Joins
def zK (lo hi lo2:Nat):Nat→Prop:=fun g=>(lo≤g∧g<hi)∨lo2≤g
def rmQ (p:PL) (g:Int→Int) (k:Nat):List RM:=rmI p g (innK p k).length
theorem innK_get {p:PL} {k:Nat} {L:List Hf} (hk:(ringsP p)[k]? =some L) (ha: ¬0<areaH p L):(innersP p)[(innK p k).length]? =some L:=by
 have e:innersP p=innK p (k+1)++((ringsP p).drop (k+1)).filter fun L=> !decide (0<areaH p L):=by
  unfold innK innersP
  rw[←List.filter_append,List.take_append_drop]
 rw[e,(outK_neg hk ha).2,List.append_assoc,List.getElem?_append_right (Nat.le_refl _)]
 simp
theorem rmQ_pos {p:PL} {g:Int→Int} {k:Nat} {L:List Hf} (hk:(ringsP p)[k]? =some L) (ha:0<areaH p L):rmQ p g (k+1)=rmQ p g k:=by unfold rmQ;rw[(outK_pos hk ha).2]
theorem rmQ_neg {p:PL} {g:Int→Int} {k:Nat} {L:List Hf} (hk:(ringsP p)[k]? =some L) (ha: ¬0<areaH p L):rmQ p g (k+1)=addI (rmQ p g k) (idxI p g L) L:=by
 unfold rmQ
 rw[(outK_neg hk ha).2,List.length_append]
 exact rmI_succ (innK_get hk ha)
theorem rmQ_done {p:PL} (g:Int→Int) {k:Nat} (h:(ringsP p).length≤k) (no:Int):rmQ p g k=rmV p g no 0:=by
 have e:innK p k=innersP p:=by unfold innK innersP;rw[List.take_of_length_le h]
 unfold rmQ rmV
 rw[e]
 rfl
theorem rmQ_len {p:PL} (g:Int→Int) (k:Nat):(rmQ p g k).length=(outersP p).length+1:=rmI_len g _
theorem RgOut.hd {lo:Nat} {w:World} {a:Option Addr} {L:List (List Hf)} (h:RgOut lo w a L): ∃Ho:Nat→Value, ∀(i:Nat) (R:List Hf),L[i]? =some R→ ∃b g c,a=some ⟨b,0,none⟩∧lo≤b∧b<w.heap.size∧Ho i= .slice (some ⟨g,0,none⟩) R.length c∧w.cell? ⟨b,i,none⟩=some (Ho i)∧lo≤g∧g<w.heap.size∧HsAt w g 0 R:=by
 rcases h with rfl|⟨b,rfl,h1,h2,hs⟩
 ·exact⟨fun _=> .slice none 0 0,fun i R hi=>by simp at hi⟩
 ·refine⟨fun i=>(w.cell? ⟨b,i,none⟩).getD (.slice none 0 0),fun i R hi=> ?_⟩
  obtain⟨g,c,hc,h3,h4,h5⟩:=hs i R hi
  exact⟨b,g,c,rfl,h1,h2,by show(w.cell? ⟨b,i,none⟩).getD _=_;rw[hc];rfl,by show _=some ((w.cell? ⟨b,i,none⟩).getD (.slice none 0 0));rw[hc];rfl,h3,h4,h5⟩
theorem RgOut.touch {lo:Nat} {w w':World} {a:Option Addr} {L:List (List Hf)} {F:List Nat} (h:RgOut lo w a L) (t:Touch F w w') (hF: ∀b∈F,b<lo∨w.heap.size≤b):RgOut lo w' a L:=by
 rcases h with e|⟨b,e,h1,h2,hs⟩
 ·exact .inl e
 ·have no: ∀q,lo≤q→q<w.heap.size→q∉F:=fun q h1 h2 hm=>by rcases hF q hm with e|e<;>omega
  refine .inr ⟨b,e,h1,Nat.lt_of_lt_of_le h2 t.size,fun i R hi=> ?_⟩
  obtain⟨g,c,hc,h3,h4,h5⟩:=hs i R hi
  exact⟨g,c,(t.cell (p:=⟨b,i,none⟩) h2 (no b h1 h2)).trans hc,h3,Nat.lt_of_lt_of_le h4 t.size,h5.touch t h4 (no g h3 h4)⟩
theorem RgOut.in_ {lo n:Nat} {w:World} {a:Option Addr} {L:List (List Hf)} (h:RgOut lo w a L) (hn:n=L.length):RgIn w w.heap.size a n L:=by
 refine⟨hn, ?_⟩
 rcases h with rfl|⟨b,e,h1,h2,hs⟩
 ·exact .inl hn
 ·exact .inr ⟨b,0,e,h2,fun i R hi=>by
   obtain⟨g,c,hc,h3,h4,h5⟩:=hs i R hi
   exact⟨_,c,by rw[Nat.zero_add];exact hc,rfl, .inr ⟨g,0,rfl,h4,h5⟩⟩⟩
def hZ (Ho:Nat→Value):Nat→Value
 |0=> .slice none 0 0
 |i+1=>Ho i
def nilZ:Nat→Value:=fun _=> .slice none 0 0
structure Z1 (w1 wr:World) (b0 k:Nat) (ov:Value) (Ho:Nat→Value):Prop where
 row:wr.ownsRow 0 38 3 ov (k+1) ((List.range (k+1)).flatMap fun i=>[hZ Ho i, .slice none 0 0, .slice none 0 0])
 ob: ∀b,ov.ownBlock=some b→b=b0∨w1.heap.size≤b
 tch:Touch [b0] w1 wr
theorem Z1.add {w1 wr w2 w':World} {b0 k g2 cap2:Nat} {ov:Value} {Ho:Nat→Value} (h:Z1 w1 wr b0 k ov Ho) (b:Below wr.heap.size wr w2)
  (ho:w'.ownsRow 0 38 3 (.slice (some ⟨g2,0,none⟩) (k+1+1) cap2) (k+1+1) (((List.range (k+1)).flatMap fun i=>[hZ Ho i, .slice none 0 0, .slice none 0 0])++[Ho k, .slice none 0 0, .slice none 0 0])) (hgr:w2.grownBy w' ov.ownBlock) (hat:ov.ownBlock=some g2∨w2.heap.size≤g2):
  Z1 w1 w' b0 (k+1) (.slice (some ⟨g2,0,none⟩) (k+1+1) cap2) Ho:=by
 have t:=(Touch.of_below (F:=ov.ownBlock.toList) b).trans (Touch.of_grown hgr) (fun x hx=> .inl hx)
 have h1:=h.tch.size
 have h2:=b.size
 refine⟨?_,fun q hq=> ?_,h.tch.trans t (fun q hq=>(h.ob q (Option.mem_toList.1 hq)).imp (fun e=>by simp[e]) id)⟩
 ·rw[List.range_succ,List.flatMap_append]
  exact ho
 ·cases hq
  rcases hat with e|e
  ·exact h.ob _ e
  ·exact .inr (by show w1.heap.size≤g2;omega)
structure ZS (K:Nat→Prop) (w2 wr:World) (gb cap:Nat) (rms:List RM) (H VI VA:Nat→Value) (ZI:Nat→List Value):Prop where
 rl:RlM 38 33 3 K w2.heap.size w2.heap.size wr (.slice (some ⟨gb,0,none⟩) rms.length cap) rms H VI VA ZI
 no: ¬K gb
 tch:Touch [gb] w2 wr
def ozP (p:PL):Nat→List Hf
 |0=>[]
 |i+1=>((outersP p)[i]?).getD []
theorem Z1.go {w1 wr w2:World} {p:PL} {b0 lo lo2 gb cap:Nat} {Ho:Nat→Value} (h:Z1 w1 wr b0 (outersP p).length (.slice (some ⟨gb,0,none⟩) ((outersP p).length+1) cap) Ho)
  (hH: ∀(i:Nat) (R:List Hf),(outersP p)[i]? =some R→ ∃g c,Ho i= .slice (some ⟨g,0,none⟩) R.length c∧lo≤g∧g<w1.heap.size∧HsAt w1 g 0 R) (hb:Below wr.heap.size wr w2) (h0:b0<lo) (h1:lo≤w1.heap.size) (h2:gb<lo2) (h3:wr.heap.size≤lo2) (g:Int→Int):
  ZS (zK lo w1.heap.size lo2) w2 w2 gb cap (rmQ p g 0) (hZ Ho) nilZ nilZ (fun _=>[]):=by
 have e:rmQ p g 0=base17 p:=rfl
 have el:(base17 p).length=(outersP p).length+1:=by unfold base17;simp
 have t2:Touch [] wr w2:=Touch.of_below hb
 have hs:=h.tch.size
 have hgb:=h.ob gb rfl
 have key: ∀j,rmAt (base17 p) j=⟨ozP p j,[],[]⟩:=fun j=>by
  unfold rmAt base17
  rw[List.getD_eq_getElem?_getD]
  rcases j with _|j
  ·rfl
  ·rw[List.getElem?_cons_succ,List.getElem?_map]
   show _=(⟨((outersP p)[j]?).getD [],[],[]⟩:RM)
   cases (outersP p)[j]? <;>rfl
 rw[e]
 refine⟨⟨?_,fun j hj=> ?_,Nat.le_refl _,Fam.nil _ _ _ _,fun j=> ?_, ?_,fun _ _=>rfl,fun _ _=>rfl⟩, ?_,Touch.refl _ _⟩
 ·rw[el]
  exact ownsRow_touch h.row t2 (by simp)
 ·rw[key]
  rw[el] at hj
  rcases j with _|j
  ·exact .inl ⟨rfl,rfl⟩
  ·obtain⟨R,hR⟩: ∃R,(outersP p)[j]? =some R:=⟨_,List.getElem?_eq_getElem (by omega)⟩
   obtain⟨q,c,e1,k1,k2,k3⟩:=hH j R hR
   rw[show ozP p (j+1)=R from by show((outersP p)[j]?).getD []=R;rw[hR];rfl]
   refine .inr ⟨q,c,e1, .inl ⟨k1,k2⟩,by have:=hb.size;omega, ?_⟩
   refine HsAt.touch (HsAt.touch k3 h.tch k2 (by simp;omega)) t2 (by omega) (by simp)
 ·rw[key];exact HdRs.nil _ _ _
 ·have e1:(fun i=>(rmAt (base17 p) i).alone.length)=fun _=>0:=by funext j;rw[key];rfl
  have e2:(fun i=>(rmAt (base17 p) i).alone.map (Value.int .i64))=fun _=>[]:=by funext j;rw[key];rfl
  rw[e1,e2]
  exact Fam.nil _ _ _ _
 ·intro hk
  rcases hk with hk|hk<;>omega
section
variable {K:Nat→Prop} {w2 wr w' wx:World} {gb cap:Nat} {rms:List RM} {H VI VA:Nat→Value} {ZI:Nat→List Value}
theorem ZS.size (h:ZS K w2 wr gb cap rms H VI VA ZI):w2.heap.size≤wr.heap.size:=h.tch.size
theorem ZS.below (h:ZS K w2 wr gb cap rms H VI VA ZI) (b:Below wr.heap.size wr w'):ZS K w2 w' gb cap rms H VI VA ZI:=
 ⟨h.rl.touch (F:=[]) (Touch.of_below b) h.size (by simp) (by simp) (by simp) (by simp),h.no,h.tch.trans (Touch.of_below (F:=[]) b) (by simp)⟩
theorem ZS.addI (h:ZS K w2 wr gb cap rms H VI VA ZI) {i:Nat} (hi:i<rms.length) {L:List Hf} {z:Value} {g2 cap2:Nat} (hz:HdR K w2.heap.size wr z L) (b:Below wr.heap.size wr wx)
  (ho:w'.ownsRow w2.heap.size 33 1 (.slice (some ⟨g2,0,none⟩) ((ZI i).length+1) cap2) ((ZI i).length+1) (ZI i++[z])) (k:wx.grownBy w' (VI i).ownBlock) (hat:(VI i).ownBlock=some g2∨wx.heap.size≤g2):
  ZS K w2 (w'.setCell ⟨gb,i*3+1,none⟩ (.slice (some ⟨g2,0,none⟩) ((ZI i).length+1) cap2)) gb cap (addI rms i L) H (upd VI i (.slice (some ⟨g2,0,none⟩) ((ZI i).length+1) cap2)) VA (upd ZI i (ZI i++[z])):=by
 have k1:=(Touch.of_below (F:=(VI i).ownBlock.toList) b).trans (Touch.of_grown k) (fun x hx=> .inl hx)
 have k2:Touch [gb] w' (w'.setCell ⟨gb,i*3+1,none⟩ (.slice (some ⟨g2,0,none⟩) ((ZI i).length+1) cap2)):=(Touch.refl _ _).setCell (.inl (by simp)) _
 have hr:=h.rl.addI hi hz h.size b ho k hat (by decide) (by decide) (by decide) (.inl h.no)
 rw[←len_addI rms i L] at hr
 exact⟨hr,h.no,(h.tch.trans k1 (fun q hq=> .inr ((h.rl.fi.own i).lt q (Option.mem_toList.1 hq)).1)).trans k2 (fun q hq=> .inl hq)⟩
theorem ZS.addA (h:ZS K w2 wr gb cap rms H VI VA ZI) {i:Nat} (hi:i<rms.length) {id:Int} {g2 cap2:Nat} (b:Below wr.heap.size wr wx)
  (ho:w'.ownsRow w2.heap.size 3 1 (.slice (some ⟨g2,0,none⟩) ((rmAt rms i).alone.length+1) cap2) ((rmAt rms i).alone.length+1) ((rmAt rms i).alone.map (Value.int .i64)++[.int .i64 id])) (k:wx.grownBy w' (VA i).ownBlock) (hat:(VA i).ownBlock=some g2∨wx.heap.size≤g2):
  ZS K w2 (w'.setCell ⟨gb,i*3+2,none⟩ (.slice (some ⟨g2,0,none⟩) ((rmAt rms i).alone.length+1) cap2)) gb cap (addA rms i id) H VI (upd VA i (.slice (some ⟨g2,0,none⟩) ((rmAt rms i).alone.length+1) cap2)) ZI:=by
 have k1:=(Touch.of_below (F:=(VA i).ownBlock.toList) b).trans (Touch.of_grown k) (fun x hx=> .inl hx)
 have k2:Touch [gb] w' (w'.setCell ⟨gb,i*3+2,none⟩ (.slice (some ⟨g2,0,none⟩) ((rmAt rms i).alone.length+1) cap2)):=(Touch.refl _ _).setCell (.inl (by simp)) _
 have hr:=h.rl.addA hi h.size b ho k hat (by decide) (by decide) (by decide) (.inl h.no)
 rw[←len_addA rms i id] at hr
 exact⟨hr,h.no,(h.tch.trans k1 (fun q hq=> .inr ((h.rl.fa.own i).lt q (Option.mem_toList.1 hq)).1)).trans k2 (fun q hq=> .inl hq)⟩
end
end Go.Proofs.YthopjhifepijiaaGreat
