/- Lemmas on the way to the statement. -/
import Derived.Test.YthopjhifepijiaaGreatJ14
set_option linter.unusedSimpArgs false
set_option linter.unusedVariables false
namespace Go.Proofs.YthopjhifepijiaaGreat
open Go.RowKit Go.Joins
def nmF (g:Bool) (v:Value):Nat→Value
 |0=> .bool g
 |_=>v
theorem nm_load {W:World} {b:Nat} {g:Bool} {v:Value} (hr:W.rowIs b 87 2 (nmF g v)):(loadVar 87 ⟨b,0,none⟩).run Tryz.prog W= .ok (.agg #[.bool g,v]) W:=by
 obtain⟨c,hc,hs,hi⟩:=hr
 have hcs:c= #[.bool g,v]:=by
  apply Array.ext_getElem?
  intro i
  by_cases hlt:i<2
  ·rw[hi i hlt]
   rcases i with _|_|i<;>first|rfl|(exfalso;omega)
  ·rw[Array.getElem?_eq_none (by omega),Array.getElem?_eq_none (by simp;omega)]
 subst hcs
 exact run_loadVar_row (P:=Tryz.prog) W b _ 87 _ _ _ hc Tryz.underlying87 rfl (by kernel_rfl)
theorem res_nm {fn:Func} {p:Tmp} {tmps:Array Value} {W:World} {b:Nat} {g:Bool} {v:Value} (h:fn.results= #[.cell p 87]) (hp:tmps.getD p undef= .pointer (some ⟨b,0,none⟩)) (hr:W.rowIs b 87 2 (nmF g v)):
  (results fn tmps).run Tryz.prog W= .ok (.agg #[.bool g,v]) W:=by
 have hp':tmps[p]?.getD undef= .pointer (some ⟨b,0,none⟩):=by simpa using hp
 simp[results,h,hp',asAddr,nm_load hr]
theorem Tryz.results91:Tryz.f91.results= #[.cell 2 87]:=by kernel_rfl
def lenC (w:World) (b:Nat):Nat:=match w.cell? ⟨b,1,none⟩ with
 |some (.slice _ n _)=>n
 |_=>0
theorem trimD_cut {l:List Int} {k:Nat} (hk:k<l.length) (h:l[k]? =some 0):trimD (l.take (k+1))=trimD (l.take k):=by
 rw[take_snoc' h,trimD_snoc,if_pos rfl]
theorem trimD_stay {l:List Int} {k:Nat} {x:Int} (h:l[k]? =some x) (hx:x≠0):trimD (l.take (k+1))=l.take (k+1):=by
 rw[take_snoc' h,trimD_snoc,if_neg hx]
set_option maxRecDepth 100000 in
set_option maxHeartbeats 4000000 in
theorem r3trim_any {w:World} {B n c:Nat} {a:Option Addr} {g:Bool} {l:List Int} (h:NsIn w B a n l) (hB:B≤w.heap.size) (hn:n≤1000) (hc:n≤c):
  Calls Tryz.prog 91 #[.agg #[.bool g, .slice a n c]] w fun e w'=>e= .returned (.agg #[.bool (if trimD l=[] then false else g), .slice a (trimD l).length c])∧Below w.heap.size w w':=by
 have HA:=Lib.hid h
 have HL:=Lib.hid h.1
 obtain⟨g',hg'⟩: ∃x,x=(if trimD l=[] then false else g):=⟨_,rfl⟩
 obtain⟨n',hn'⟩: ∃x,x=(trimD l).length:=⟨_,rfl⟩
 rw[←hg', ←hn']
 have HG:=Lib.hid hg'
 have HN:=Lib.hid hn'
 clear h hg' hn'
 go_enter Tryz.func91,Tryz.ntmps91
 go_wp2_with fail
 first|refine wp_name (fun W hW=> ?_)|refine calls_name (fun W hW=> ?_)
 have HW:Hid (Below w.heap.size w W):=Lib.hid (by rw[←hW];repeat (first|exact Below.refl _ _|refine below_alloc ?_))
 have HWs:Hid (W.heap.size=w.heap.size+1+1):=Lib.hid (by rw[←hW];simp)
 have HBW:Hid (W.heap.size≤W.heap.size):=Lib.hid (by have:=HWs.out;omega)
 have HC:=fun(W1:World) (hb:Below (W.heap.size) W W1)=>Lib.hid (show W1.cell? ⟨w.heap.size,0,none⟩=some (.bool g)∧W1.cell? ⟨w.heap.size,1,none⟩=some (.slice a n c)∧W1.cell? ⟨w.heap.size+1,0,none⟩=some (.bool false)∧W1.cell? ⟨w.heap.size+1,1,none⟩=some (.slice none 0 0) from by have hs:=HWs.out;refine⟨?_, ?_, ?_, ?_⟩<;>(refine(hb.cell (by dsimp only;omega)).trans ?_;rw[←hW];clear hW;go_simp))
 have HB:=Lib.hid (Below.refl (W.heap.size) W)
 have HZ:=fun(W1:World) (hb:W.heap.size≤W1.heap.size)=>Lib.hid (show w.heap.size<W1.heap.size∧w.heap.size+1<W1.heap.size from by have:=HWs.out;refine⟨?_, ?_⟩<;>omega)
 obtain⟨qx0,qx1,qx2,qx3⟩:=(HC _ HB.out).out
 obtain⟨rx0,rx1⟩:=(HZ _ HB.out.size).out
 have HP:=Lib.hid (show W.rowIs w.heap.size 87 2 (nmF g (.slice a n c)) from by
  have:=(World.rowIs_alloc w #[.bool g, .slice a n c] 87 (nmF g (.slice a n c)) (fun i hi=>by rcases i with _|_|i<;>first|rfl|(simp at hi;omega))).alloc (.cells #[.bool false, .slice none 0 0] 87)
  rw[hW] at this
  simpa using this)
 have HQ:=Lib.hid (show W.rowIs (w.heap.size+1) 87 2 (nmF false (.slice none 0 0)) from by
  have:=World.rowIs_alloc (w.alloc (.cells #[.bool g, .slice a n c] 87)) #[.bool false, .slice none 0 0] 87 (nmF false (.slice none 0 0)) (fun i hi=>by rcases i with _|_|i<;>first|rfl|(simp at hi;omega))
  rw[hW] at this
  simpa using this)
 clear hW
 clear qx0 qx1 qx2 qx3 rx0 rx1
 go_loopw [] (fun wr=> ∃k:Nat,k≤n∧trimD (l.take k)=trimD l∧wr.rowIs w.heap.size 87 2 (nmF g (.slice a k c))∧Touch [w.heap.size] W wr) (fun wr=>lenC wr w.heap.size)
 case atStart=>exact⟨n,Nat.le_refl _,by rw[List.take_of_length_le (by have:=HL.out;omega)],HP.out,Touch.refl _ _⟩
 case round=>
  obtain⟨k,hk,htr,hr,ht⟩:=hrel
  have HR:=Lib.hid hr
  have HT:=Lib.hid ht
  have HTR:=Lib.hid htr
  have hs0:w.heap.size<wr.heap.size:=by have:=HWs.out;have:=ht.size;omega
  have hs1:w.heap.size+1<wr.heap.size:=by have:=HWs.out;have:=ht.size;omega
  have HX:=Lib.hid (HW.out.trans (Touch.below ht HW.out.size (by intro b hb;simp at hb;omega)))
  have HQ1:=Lib.hid (rowIs_touch HQ.out ht (by simp))
  have f0:=fun i=>World.rowIs.frozen hr i
  have c0:wr.cell? ⟨w.heap.size,0,none⟩=some (.bool g):=World.rowIs.cell hr (i:=0) (by decide)
  have c1:wr.cell? ⟨w.heap.size,1,none⟩=some (.slice a k c):=World.rowIs.cell hr (i:=1) (by decide)
  have f1:=fun i=>World.rowIs.frozen HQ1.out i
  have q0:wr.cell? ⟨w.heap.size+1,0,none⟩=some (.bool false):=World.rowIs.cell HQ1.out (i:=0) (by decide)
  have q1:wr.cell? ⟨w.heap.size+1,1,none⟩=some (.slice none 0 0):=World.rowIs.cell HQ1.out (i:=1) (by decide)
  clear hr ht htr
  rcases k with _|k
  ·have F:=Lib.hid (show trimD l=[] from by rw[←HTR.out];rfl)
   go_wp2_with fail
   refine bodyPost_ret_by (res_nm (g:=false) (v:= .slice a 0 c) Tryz.results91 rfl (World.rowIs.congr (World.rowIs.set (World.rowIs.set (rowIs_touch (F:=[w.heap.size]) HQ1.out ((Touch.refl _ _).setCell (.inl (by simp)) _) (by simp)) 0 _) 1 _) (fun i hi=>by rcases i with _|_|i<;>first|rfl|exact absurd hi (by omega)))) rfl ?_
   exact⟨by rw[HG.out,HN.out,F.out];rfl,((HX.out.setCell (by simp) _).setCell (by simp) _).setCell (by simp) _⟩
  ·obtain⟨ba,oa,rfl,hba,hca⟩:=HA.out.row (by omega)
   obtain⟨x,hx⟩: ∃x,l[k]? =some x:=⟨_,List.getElem?_eq_getElem (by have:=HL.out;omega)⟩
   have HXK:=Lib.hid hx
   have e1:=hca wr (HX.out.mono hB) k x hx
   have hkc:k≤c:=by omega
   clear hca hx
   by_cases hx0:x=0
   ·subst hx0
    go_wp2_with fail
    go_roundw
    case rel=>exact⟨k,by omega,by rw[←HTR.out,trimD_cut (by have:=HL.out;omega) HXK.out],World.rowIs.congr (World.rowIs.set HR.out 1 _) (fun i hi=>by rcases i with _|_|i<;>first|rfl|exact absurd hi (by omega)),HT.out.setCell (.inl (by simp)) _⟩
    case measure=>
     have hrow:=World.rowIs.congr (g:=nmF g (.slice (some ⟨ba,oa,none⟩) k c)) (World.rowIs.set HR.out 1 (.slice (some ⟨ba,oa,none⟩) k c)) (fun i hi=>by rcases i with _|_|i<;>first|rfl|exact absurd hi (by omega))
     have hz2:(wr.setCell ⟨w.heap.size,1,none⟩ (.slice (some ⟨ba,oa,none⟩) k c)).cell? ⟨w.heap.size,1,none⟩=some (.slice (some ⟨ba,oa,none⟩) k c):=World.rowIs.cell hrow (i:=1) (by decide)
     unfold lenC
     rw[hz2,c1]
     show k<k+1
     omega
   ·have hz:(x==0)=false:=by simpa using hx0
    have F:=Lib.hid (show trimD l=l.take (k+1) from by rw[←HTR.out,trimD_stay HXK.out hx0])
    go_wp2_with fail
    refine bodyPost_ret_by (res_nm (g:=g) (v:= .slice (some ⟨ba,oa,none⟩) (k+1) c) Tryz.results91 rfl (World.rowIs.congr (World.rowIs.set (World.rowIs.set HQ1.out 0 _) 1 _) (fun i hi=>by rcases i with _|_|i<;>first|rfl|exact absurd hi (by omega)))) rfl ?_
    refine⟨?_,(HX.out.setCell (by simp) _).setCell (by simp) _⟩
    have hlen:(l.take (k+1)).length=k+1:=by rw[List.length_take];have:=HL.out;omega
    rw[HG.out,HN.out,F.out,if_neg (fun e=>by rw[e] at hlen;simp at hlen),hlen]
def NmV (w:World) (lo B:Nat) (v:Value) (x:Int):Prop:= ∃g a n c l,v= .agg #[.bool g, .slice a n c]∧NsIn w B a n l∧n≤c∧NumD x g l∧(n=0∨ ∀q,a=some q→lo≤q.block)
theorem NmV.below {w w':World} {lo B:Nat} {v:Value} {x:Int} (h:NmV w lo B v x) (k:Below B w w'):NmV w' lo B v x:=by
 obtain⟨g,a,n,c,l,e,hn,hc,hd⟩:=h
 exact⟨g,a,n,c,l,e,hn.below k,hc,hd⟩
theorem NmV.weak {w:World} {lo lo' B:Nat} {v:Value} {x:Int} (h:NmV w lo B v x) (k:lo'≤lo):NmV w lo' B v x:=by
 obtain⟨g,a,n,c,l,e,hn,hc,hd,ha⟩:=h
 exact⟨g,a,n,c,l,e,hn,hc,hd,ha.imp id (fun f q hq=>Nat.le_trans k (f q hq))⟩
theorem NmV.touch {w w':World} {lo B:Nat} {v:Value} {x:Int} {F:List Nat} (h:NmV w lo B v x) (t:Touch F w w') (hB:B≤w.heap.size) (hF: ∀b∈F,b<lo):NmV w' lo B v x:=by
 obtain⟨g,a,n,c,l,e,⟨hn,hs⟩,hc,hd,ha⟩:=h
 refine⟨g,a,n,c,l,e,⟨hn, ?_⟩,hc,hd,ha⟩
 rcases hs with h0|⟨b,off,rfl,hb,hcl⟩
 ·exact .inl h0
 ·rcases ha with h0|ha
  ·exact .inl h0
  ·exact .inr ⟨b,off,rfl,hb,fun i y hy=>(t.cell (p:=⟨b,_,none⟩) (Nat.lt_of_lt_of_le hb hB) (fun hm=>by have:=hF b hm;have:=ha _ rfl;simp at this;omega)).trans (hcl i y hy)⟩
theorem NmV.zero (w:World) (lo B:Nat):NmV w lo B (.agg #[.bool false, .slice none 0 0]) 0:=⟨false,none,0,0,[],rfl,⟨rfl, .inl rfl⟩,Nat.le_refl _,NumD.zero, .inl rfl⟩
def bdN (x:Int):Prop:=x.natAbs<1180591620717411303424
theorem NumD.few {x:Int} {g:Bool} {l:List Int} (h:NumD x g l) (hb:bdN x):l.length≤5:=by
 rcases Nat.lt_or_ge 5 l.length with hl|hl
 ·have:=val_len (a:=[65535,65535,65535,65535,65535]) (by intro d hd;simp at hd;omega) h.ok h.top (by simpa using hl)
  have h2:valD [65535,65535,65535,65535,65535]=1208925819614629174706175:=by decide
  rw[h2,h.val] at this
  unfold bdN at hb
  omega
 ·exact hl
theorem NsIn.mono {w:World} {B B':Nat} {a:Option Addr} {n:Nat} {l:List Int} (h:NsIn w B a n l) (k:B≤B'):NsIn w B' a n l:=
 ⟨h.1,h.2.imp id (fun⟨b,off,e,hb,hc⟩=>⟨b,off,e,Nat.lt_of_lt_of_le hb k,hc⟩)⟩
theorem NmV.mono {w:World} {lo B B':Nat} {v:Value} {x:Int} (h:NmV w lo B v x) (k:B≤B'):NmV w lo B' v x:=by
 obtain⟨g,a,n,c,l,e,hn,hc,hd⟩:=h
 exact⟨g,a,n,c,l,e,hn.mono k,hc,hd⟩
theorem sizeD_num {x y:Int} {g k:Bool} {l m:List Int} (hx:NumD x g l) (hy:NumD y k m):sizeD l m=if x.natAbs<y.natAbs then -1 else if y.natAbs<x.natAbs then 1 else 0:=by
 unfold sizeD
 rw[hx.val,hy.val]
 by_cases h1:x.natAbs<y.natAbs
 ·rw[if_pos (by omega),if_pos h1]
 ·rw[if_neg (by omega),if_neg h1]
  by_cases h2:y.natAbs<x.natAbs
  ·rw[if_pos (by omega),if_pos h2]
  ·rw[if_neg (by omega),if_neg h2]
def cmpN (x y:Int):Int:=if x<y then -1 else if y<x then 1 else 0
set_option maxRecDepth 100000 in
set_option maxHeartbeats 4000000 in
theorem r3cmp_any {w:World} {B l0 l1:Nat} {u v:Value} {x y:Int} (hu:NmV w l0 B u x) (hv:NmV w l1 B v y) (bx:bdN x) (by_:bdN y) (hB:B≤w.heap.size):
  Calls Tryz.prog 68 #[u,v] w fun e w'=>e= .returned (.int .i64 (cmpN x y))∧Below w.heap.size w w':=by
 obtain⟨g,a,n,c,l,rfl,hn,hc,hd, -⟩:=hu
 obtain⟨k,b,m,d,q,rfl,hm,he,hq, -⟩:=hv
 have l1:=hd.few bx
 have l2:=hq.few by_
 have e1:=hn.1
 have e2:=hm.1
 have HS:=fun(W:World) (hb:Below w.heap.size w W)=>Lib.hid (r3size_any (w:=W) (ca:=c) (cb:=d) (hn.below (hb.mono hB)) (hm.below (hb.mono hB)) hd.ok hq.ok hd.top hq.top (Nat.le_trans hB hb.size) (by omega) (by omega))
 have HS2:=fun(W:World) (hb:Below w.heap.size w W)=>Lib.hid (r3size_any (w:=W) (ca:=d) (cb:=c) (hm.below (hb.mono hB)) (hn.below (hb.mono hB)) hq.ok hd.ok hq.top hd.top (Nat.le_trans hB hb.size) (by omega) (by omega))
 rw[sizeD_num hd hq] at HS
 rw[sizeD_num hq hd] at HS2
 have hg:=hd.neg
 have hk:=hq.neg
 obtain⟨z,hz⟩: ∃z,z=cmpN x y:=⟨_,rfl⟩
 obtain⟨s1,hs1⟩: ∃z:Int,z=(if x.natAbs<y.natAbs then -1 else if y.natAbs<x.natAbs then 1 else 0):=⟨_,rfl⟩
 obtain⟨s2,hs2⟩: ∃z:Int,z=(if y.natAbs<x.natAbs then -1 else if x.natAbs<y.natAbs then 1 else 0):=⟨_,rfl⟩
 rw[←hs1] at HS
 rw[←hs2] at HS2
 rw[←hz]
 have HZ:Hid ((g=true→k=true→z=s2)∧(g=false→k=false→z=s1)∧(g=true→k=false→z= -1)∧(g=false→k=true→z=1)):=Lib.hid (by
  subst hz hs1 hs2 hg hk
  unfold cmpN
  simp only[decide_eq_true_eq,decide_eq_false_iff_not]
  refine⟨fun h1 h2=> ?_,fun h1 h2=> ?_,fun h1 h2=> ?_,fun h1 h2=> ?_⟩<;>(repeat (first|split|rfl|omega)))
 clear hz hs1 hs2 hn hm hc he hd hq bx by_ hg hk l1 l2 e1 e2
 cases g<;>cases k
 ·have F:=Lib.hid (HZ.out.2.1 rfl rfl)
  go_enter Tryz.func68,Tryz.ntmps68
  go_wp2_with fail
  first|refine wp_name (fun W hW=> ?_)|refine calls_name (fun W hW=> ?_)
  have HW:Hid (Below w.heap.size w W):=Lib.hid (by rw[←hW];repeat (first|exact Below.refl _ _|refine below_alloc ?_))
  have HWs:Hid (W.heap.size=w.heap.size+1+1):=Lib.hid (by rw[←hW];simp)
  have HBW:Hid (W.heap.size≤W.heap.size):=Lib.hid (by have:=HWs.out;omega)
  have HC:=fun(W1:World) (hb:Below (W.heap.size) W W1)=>Lib.hid (show W1.cell? ⟨w.heap.size,0,none⟩=some (.bool false)∧W1.cell? ⟨w.heap.size,1,none⟩=some (.slice a n c)∧W1.cell? ⟨w.heap.size+1,0,none⟩=some (.bool false)∧W1.cell? ⟨w.heap.size+1,1,none⟩=some (.slice b m d) from by have hs:=HWs.out;refine⟨?_, ?_, ?_, ?_⟩<;>(refine(hb.cell (by dsimp only;omega)).trans ?_;rw[←hW];clear hW;go_simp))
  have HB:=Lib.hid (Below.refl (W.heap.size) W)
  clear hW
  have HZ:=fun(W1:World) (hb:W.heap.size≤W1.heap.size)=>Lib.hid (show w.heap.size<W1.heap.size∧w.heap.size+1<W1.heap.size from by have:=HWs.out;refine⟨?_, ?_⟩<;>omega)
  obtain⟨qx0,qx1,qx2,qx3⟩:=(HC _ HB.out).out
  obtain⟨rx0,rx1⟩:=(HZ _ HB.out.size).out
  refine((HS _ HW.out).out).mono ?_
  rintro e w3 ⟨rfl,hb3⟩
  have HB:=bnx HB HBW hb3
  clear qx0 qx1 qx2 qx3 rx0 rx1
  obtain⟨qx0,qx1,qx2,qx3⟩:=(HC _ HB.out).out
  clear hb3
  obtain⟨rx0,rx1⟩:=(HZ _ HB.out.size).out
  go_wp2_with fail
  go_ret
  exact⟨by rw[F.out];rfl,bfn HW HB⟩
 ·have F:=Lib.hid (HZ.out.2.2.2 rfl rfl)
  go_enter Tryz.func68,Tryz.ntmps68
  go_wp2_with fail
  go_ret
  exact⟨by rw[F.out];rfl,below_alloc (below_alloc (Below.refl _ _))⟩
 ·have F:=Lib.hid (HZ.out.2.2.1 rfl rfl)
  go_enter Tryz.func68,Tryz.ntmps68
  go_wp2_with fail
  go_ret
  exact⟨by rw[F.out];rfl,below_alloc (below_alloc (Below.refl _ _))⟩
 ·have F:=Lib.hid (HZ.out.1 rfl rfl)
  go_enter Tryz.func68,Tryz.ntmps68
  go_wp2_with fail
  first|refine wp_name (fun W hW=> ?_)|refine calls_name (fun W hW=> ?_)
  have HW:Hid (Below w.heap.size w W):=Lib.hid (by rw[←hW];repeat (first|exact Below.refl _ _|refine below_alloc ?_))
  have HWs:Hid (W.heap.size=w.heap.size+1+1):=Lib.hid (by rw[←hW];simp)
  have HBW:Hid (W.heap.size≤W.heap.size):=Lib.hid (by have:=HWs.out;omega)
  have HC:=fun(W1:World) (hb:Below (W.heap.size) W W1)=>Lib.hid (show W1.cell? ⟨w.heap.size,0,none⟩=some (.bool true)∧W1.cell? ⟨w.heap.size,1,none⟩=some (.slice a n c)∧W1.cell? ⟨w.heap.size+1,0,none⟩=some (.bool true)∧W1.cell? ⟨w.heap.size+1,1,none⟩=some (.slice b m d) from by have hs:=HWs.out;refine⟨?_, ?_, ?_, ?_⟩<;>(refine(hb.cell (by dsimp only;omega)).trans ?_;rw[←hW];clear hW;go_simp))
  have HB:=Lib.hid (Below.refl (W.heap.size) W)
  clear hW
  have HZ:=fun(W1:World) (hb:W.heap.size≤W1.heap.size)=>Lib.hid (show w.heap.size<W1.heap.size∧w.heap.size+1<W1.heap.size from by have:=HWs.out;refine⟨?_, ?_⟩<;>omega)
  obtain⟨qx0,qx1,qx2,qx3⟩:=(HC _ HB.out).out
  obtain⟨rx0,rx1⟩:=(HZ _ HB.out.size).out
  refine((HS2 _ HW.out).out).mono ?_
  rintro e w6 ⟨rfl,hb6⟩
  have HB:=bnx HB HBW hb6
  clear qx0 qx1 qx2 qx3 rx0 rx1
  obtain⟨qx0,qx1,qx2,qx3⟩:=(HC _ HB.out).out
  clear hb6
  obtain⟨rx0,rx1⟩:=(HZ _ HB.out.size).out
  go_wp2_with fail
  go_ret
  exact⟨by rw[F.out];rfl,bfn HW HB⟩
end Go.Proofs.YthopjhifepijiaaGreat
namespace Go.Proofs.YthopjhifepijiaaGreat
open Go.RowKit Go.Joins
theorem Tryz.results65:Tryz.f65.results= #[.cell 4 87]:=by kernel_rfl
theorem own_cap {w:World} {base n c size:Nat} {a:Option Addr} {t:TypeId} {l:List Value} (h:w.ownsRow base t size (.slice a n c) n l):n≤c:=by
 rcases h.2 with ⟨e,h0⟩|⟨g,cap,cur,e,_,_,hc,_⟩
 ·omega
 ·injection e with e1 e2 e3
  omega
theorem NmV.trim {w:World} {base n c:Nat} {a:Option Addr} {t:TypeId} {l:List Int} {x:Int} (h:w.ownsRow base t 1 (.slice a n c) n (intC l)) (hn:n=l.length) (ok:okD l) (g:Bool) (e:(if g=true then -valD l else valD l)=x):
  NmV w base w.heap.size (.agg #[.bool (if trimD l=[] then false else g), .slice a (trimD l).length c]) x:=by
 obtain⟨k,hk,ht⟩:=trimD_take l
 have hl:(trimD l).length=k:=by rw[ht,List.length_take];omega
 have h2:=(own_ns h hn).take (k:=k) (by omega)
 have hc:=own_cap h
 rw[←ht] at h2
 rw[hl]
 exact⟨_,a,k,c,trimD l,rfl,h2,by omega,NumD.trim ok g e, .inr (fun q hq=>(h.lt q.block (by subst hq;rfl)).1)⟩
set_option maxRecDepth 100000 in
set_option maxHeartbeats 8000000 in
theorem r3add_any {w:World} {B l0 l1:Nat} {u v:Value} {x y:Int} (hu:NmV w l0 B u x) (hv:NmV w l1 B v y) (bx:bdN x) (by_:bdN y) (hB:B≤w.heap.size):
  Calls Tryz.prog 65 #[u,v] w fun e w'=>(∃z,e= .returned z∧NmV w' w.heap.size w'.heap.size z (x+y))∧Below w.heap.size w w':=by
 obtain⟨g,a,n,c,l,rfl,hn,hc,hd, -⟩:=hu
 obtain⟨k,b,m,d,q,rfl,hm,he,hq, -⟩:=hv
 have l1:=hd.few bx
 have l2:=hq.few by_
 have e1:=hn.1
 have e2:=hm.1
 have hg:=hd.neg
 have hk:=hq.neg
 have v1:=hd.val
 have v2:=hq.val
 cases hgk:(g==k)
 ·have hne:g≠k:=by simpa using hgk
  have HS:=fun(W:World) (hb:Below w.heap.size w W)=>Lib.hid (r3size_any (w:=W) (ca:=c) (cb:=d) (hn.below (hb.mono hB)) (hm.below (hb.mono hB)) hd.ok hq.ok hd.top hq.top (Nat.le_trans hB hb.size) (by omega) (by omega))
  by_cases hcmp:y.natAbs≤x.natAbs
  ·have hs:0≤sizeD l q:=by rw[sizeD_num hd hq,if_neg (by omega)];split<;>omega
   generalize sizeD l q=s at HS hs
   have HPO:=Lib.hid (minusL_ok (w:=0) hd.ok hq.ok (by omega) (by omega))
   have hpv:=minusL_val (w:=0) hd.ok hq.ok (by omega) (by omega) (by omega)
   have HPV:Hid ((if g=true then -valD (minusL l q 0) else valD (minusL l q 0))=x+y):=Lib.hid (by
    rw[hpv,v1,v2]
    cases g<;>cases k<;>simp at hg hk hne ⊢ <;>omega)
   have HLN:Hid ((minusL l q 0).length≤100):=Lib.hid (by rw[minusL_len];omega)
   have HMI:=fun(W:World) (hb:Below w.heap.size w W)=>Lib.hid (r3minus_any (w:=W) (ca:=c) (cb:=d) (hn.below (hb.mono hB)) (hm.below (hb.mono hB)) hd.ok hq.ok (Nat.le_trans hB hb.size) (by omega) (by omega))
   clear hn hm hc he hd hq bx by_ hg hk v1 v2 e1 e2 l1 l2 hpv hcmp hne
   go_enter Tryz.func65,Tryz.ntmps65
   go_wp2_with fail
   first|refine wp_name (fun W hW=> ?_)|refine calls_name (fun W hW=> ?_)
   have HW:Hid (Below w.heap.size w W):=Lib.hid (by rw[←hW];repeat (first|exact Below.refl _ _|refine below_alloc ?_))
   have HWs:Hid (W.heap.size=w.heap.size+1+1+1):=Lib.hid (by rw[←hW];simp)
   have HBW:Hid (W.heap.size≤W.heap.size):=Lib.hid (by have:=HWs.out;omega)
   have HC:=fun(W1:World) (hb:Below (W.heap.size) W W1)=>Lib.hid (show W1.cell? ⟨w.heap.size,0,none⟩=some (.bool g)∧W1.cell? ⟨w.heap.size,1,none⟩=some (.slice a n c)∧W1.cell? ⟨w.heap.size+1,0,none⟩=some (.bool k)∧W1.cell? ⟨w.heap.size+1,1,none⟩=some (.slice b m d)∧W1.cell? ⟨w.heap.size+1+1,0,none⟩=some (.bool false)∧W1.cell? ⟨w.heap.size+1+1,1,none⟩=some (.slice none 0 0) from by have hs:=HWs.out;refine⟨?_, ?_, ?_, ?_, ?_, ?_⟩<;>(refine(hb.cell (by dsimp only;omega)).trans ?_;rw[←hW];clear hW;go_simp))
   have HB:=Lib.hid (Below.refl (W.heap.size) W)
   have HZ:=fun(W1:World) (hb:W.heap.size≤W1.heap.size)=>Lib.hid (show w.heap.size<W1.heap.size∧w.heap.size+1<W1.heap.size∧w.heap.size+1+1<W1.heap.size from by have:=HWs.out;refine⟨?_, ?_, ?_⟩<;>omega)
   obtain⟨qx0,qx1,qx2,qx3,qx4,qx5⟩:=(HC _ HB.out).out
   obtain⟨rx0,rx1,rx2⟩:=(HZ _ HB.out.size).out
   have HQ:=Lib.hid (show W.rowIs (w.heap.size+1+1) 87 2 (nmF false (.slice none 0 0)) from by
    have:=World.rowIs_alloc ((w.alloc (.cells #[.bool g, .slice a n c] 87)).alloc (.cells #[.bool k, .slice b m d] 87)) #[.bool false, .slice none 0 0] 87 (nmF false (.slice none 0 0)) (fun i hi=>by rcases i with _|_|i<;>first|rfl|(simp at hi;omega))
    rw[hW] at this
    simpa using this)
   clear hW
   refine((HS _ HW.out).out).mono ?_
   rintro e w1 ⟨rfl,hb2⟩
   have HB:=bnx HB HBW hb2
   clear qx0 qx1 qx2 qx3 qx4 qx5 rx0 rx1 rx2
   obtain⟨qx0,qx1,qx2,qx3,qx4,qx5⟩:=(HC _ HB.out).out
   clear hb2
   obtain⟨rx0,rx1,rx2⟩:=(HZ _ HB.out.size).out
   go_wp2_with fail
   clear qx0 qx1 qx2 qx3 qx4 qx5 rx0 rx1 rx2
   have HY:=fun(w':World) (t:Below W.heap.size W w')=>Lib.hid (show w'.cell? ⟨w.heap.size,0,none⟩=some (.bool g)∧w'.cell? ⟨w.heap.size,1,none⟩=some (.slice a n c)∧w'.cell? ⟨w.heap.size+1,0,none⟩=some (.bool k)∧w'.cell? ⟨w.heap.size+1,1,none⟩=some (.slice b m d) from by
    obtain⟨d0,d1,d2,d3, -⟩:=(HC _ t).out
    exact⟨d0,d1,d2,d3⟩)
   have HS0:=Lib.hid HB.out.drew
   refine wp_region_noPanic ?_
   refine wp_region_par3 9 9 (by kernel_rfl) (by kernel_rfl) (by simp) (by omega) (by kernel_rfl) (by kernel_rfl) (fun w':World=>Below W.heap.size W w') ?_
   refine par3_move (v:= ?_) 0 (by simp only[zga,zgb,zgc];rfl) (by kernel_rfl) (by rfl) ?_ (fun _ _ _ h=>h) ?_
   rotate_left
   ·(intro w9;go_simp;try with_reducible rfl)
   simp only[Act.put,zpa,zpb,zpc]
   refine par3_read (v:= ?_) 1 (by simp only[zga,zgb,zgc];rfl) (by kernel_rfl) (by rfl) HS0.out ?_ (fun _ _ _ h=>h) ?_
   rotate_left
   ·(intro w9 hSw;obtain⟨y0,y1,y2,y3⟩:=(HY w9 hSw).out;clear hSw;go_simp;try with_reducible rfl)
   simp only[Act.put,zpa,zpb,zpc]
   refine par3_move (v:= ?_) 2 (by simp only[zga,zgb,zgc];rfl) (by kernel_rfl) (by rfl) ?_ (fun _ _ _ h=>h) ?_
   rotate_left
   ·(intro w9;go_simp;try with_reducible rfl)
   simp only[Act.put,zpa,zpb,zpc]
   refine par3_read (v:= ?_) 3 (by simp only[zga,zgb,zgc];rfl) (by kernel_rfl) (by rfl) HS0.out ?_ (fun _ _ _ h=>h) ?_
   rotate_left
   ·(intro w9 hSw;obtain⟨y0,y1,y2,y3⟩:=(HY w9 hSw).out;clear hSw;go_simp;try with_reducible rfl)
   simp only[Act.put,zpa,zpb,zpc]
   refine par3_move (v:= ?_) 4 (by simp only[zga,zgb,zgc];rfl) (by kernel_rfl) (by rfl) ?_ (fun _ _ _ h=>h) ?_
   rotate_left
   ·(intro w9;go_simp;try with_reducible rfl)
   simp only[Act.put,zpa,zpb,zpc]
   refine par3_read (v:= ?_) 5 (by simp only[zga,zgb,zgc];rfl) (by kernel_rfl) (by rfl) HS0.out ?_ (fun _ _ _ h=>h) ?_
   rotate_left
   ·(intro w9 hSw;obtain⟨y0,y1,y2,y3⟩:=(HY w9 hSw).out;clear hSw;go_simp;try with_reducible rfl)
   simp only[Act.put,zpa,zpb,zpc]
   refine par3_nm (fun W0 hW0=> ?_)
   rw[←hW0] at HS0
   clear hW0
   refine par3_one 6 (by simp only[zga,zgb,zgc];rfl) (by kernel_rfl) (by rfl) ?_
   refine owp_call (by go_simp;constructor<;>rfl) ?_
   refine(HMI _ (HW.out.trans (HS0.out.mono HW.out.size))).out.mono ?_
   rintro z W6 ⟨⟨ra,rn,rc,rfl,hrn,hown⟩,hb6⟩
   have HS6:=Lib.hid (below_next HS0.out HS0.out.size hb6)
   have HO6:=Lib.hid hown
   have HRN:=Lib.hid hrn
   refine⟨_,rfl,fun s _=>HS6.out, ?_⟩
   clear hb6 hown hrn
   simp only[Act.put,zpa,zpb,zpc]
   refine par3_move (v:= ?_) 7 (by simp only[zga,zgb,zgc];rfl) (by kernel_rfl) (by rfl) ?_ (fun _ _ _ h=>h) ?_
   rotate_left
   ·(intro w9;go_simp;try with_reducible rfl)
   simp only[Act.put,zpa,zpb,zpc]
   refine par3_one 8 (by simp only[zga,zgb,zgc];rfl) (by kernel_rfl) (by rfl) ?_
   refine owp_call (by go_simp;constructor<;>rfl) ?_
   refine(r3trim_any (own_ns HO6.out HRN.out) (Nat.le_refl _) (by have:=HRN.out;have:=HLN.out;omega) (own_cap HO6.out)).mono ?_
   rintro z W8 ⟨rfl,hb8⟩
   have HS8:=Lib.hid (below_next HS6.out HS6.out.size hb8)
   have HO8:=Lib.hid (ownsRow_touch HO6.out (Touch.of_below (F:=[]) hb8) (by simp))
   refine⟨_,rfl,fun s _=>HS8.out, ?_⟩
   clear hb8
   simp only[Act.put,zpa,zpb,zpc]
   have HQ8:=Lib.hid (rowIs_touch HQ.out (Touch.of_below (F:=[]) HS8.out) (by simp))
   have hlo:w.heap.size+1+1<W0.heap.size:=by have:=HWs.out;have:=HS0.out.size;omega
   have HOF:=Lib.hid (fun(x y:Value)=>ownsRow_touch HO8.out (((Touch.refl [w.heap.size+1+1] W8).setCell (p:=⟨w.heap.size+1+1,0,none⟩) (.inl (by simp)) x).setCell (p:=⟨w.heap.size+1+1,1,none⟩) (.inl (by simp)) y) (fun q hq hm=>by have:=(HO8.out.lt q hq).1;simp at hm;omega))
   have f0:=fun i=>World.rowIs.frozen HQ8.out i
   have q0:W8.cell? ⟨w.heap.size+1+1,0,none⟩=some (.bool false):=World.rowIs.cell HQ8.out (i:=0) (by decide)
   have q1:W8.cell? ⟨w.heap.size+1+1,1,none⟩=some (.slice none 0 0):=World.rowIs.cell HQ8.out (i:=1) (by decide)
   obtain⟨tg,htg⟩: ∃y,y=(if trimD (minusL l q 0)=[] then false else g):=⟨_,rfl⟩
   obtain⟨tn,htn⟩: ∃y,y=(trimD (minusL l q 0)).length:=⟨_,rfl⟩
   have HTG:=Lib.hid (show tg=(if trimD (minusL l q 0)=[] then false else g)∧tn=(trimD (minusL l q 0)).length from⟨htg,htn⟩)
   rw[←htg, ←htn]
   clear htg htn
   refine par3_tail _ (by simp only[List.drop_succ_cons,List.drop_zero];rfl) (by kernel_rfl) ?_
   go_wp2_with fail
   refine NoPanic.normal ?_
   go_wp2_with fail
   refine bodyPost_ret_by (res_nm (g:=tg) (v:= .slice ra tn rc) Tryz.results65 rfl (World.rowIs.congr (World.rowIs.set (World.rowIs.set HQ8.out 0 _) 1 _) (fun i hi=>by rcases i with _|_|i<;>first|rfl|exact absurd hi (by omega)))) rfl ?_
   refine⟨⟨_,rfl, ?_⟩,((HW.out.trans (HS8.out.mono HW.out.size)).setCell (p:=⟨w.heap.size+1+1,0,none⟩) (by show _≤w.heap.size+1+1;omega) _).setCell (p:=⟨w.heap.size+1+1,1,none⟩) (by show _≤w.heap.size+1+1;omega) _⟩
   rw[HTG.out.1,HTG.out.2]
   exact(NmV.trim (HOF.out _ _) HRN.out HPO.out g HPV.out).weak (by omega)
  ·have hs:sizeD l q<0:=by rw[sizeD_num hd hq,if_pos (by omega)];omega
   generalize sizeD l q=s at HS hs
   have HPO:=Lib.hid (minusL_ok (w:=0) hq.ok hd.ok (by omega) (by omega))
   have hpv:=minusL_val (w:=0) hq.ok hd.ok (by omega) (by omega) (by omega)
   have HPV:Hid ((if k=true then -valD (minusL q l 0) else valD (minusL q l 0))=x+y):=Lib.hid (by
    rw[hpv,v1,v2]
    cases g<;>cases k<;>simp at hg hk hne ⊢ <;>omega)
   have HLN:Hid ((minusL q l 0).length≤100):=Lib.hid (by rw[minusL_len];omega)
   have HMI:=fun(W:World) (hb:Below w.heap.size w W)=>Lib.hid (r3minus_any (w:=W) (ca:=d) (cb:=c) (hm.below (hb.mono hB)) (hn.below (hb.mono hB)) hq.ok hd.ok (Nat.le_trans hB hb.size) (by omega) (by omega))
   clear hn hm hc he hd hq bx by_ hg hk v1 v2 e1 e2 l1 l2 hpv hcmp hne
   go_enter Tryz.func65,Tryz.ntmps65
   go_wp2_with fail
   first|refine wp_name (fun W hW=> ?_)|refine calls_name (fun W hW=> ?_)
   have HW:Hid (Below w.heap.size w W):=Lib.hid (by rw[←hW];repeat (first|exact Below.refl _ _|refine below_alloc ?_))
   have HWs:Hid (W.heap.size=w.heap.size+1+1+1):=Lib.hid (by rw[←hW];simp)
   have HBW:Hid (W.heap.size≤W.heap.size):=Lib.hid (by have:=HWs.out;omega)
   have HC:=fun(W1:World) (hb:Below (W.heap.size) W W1)=>Lib.hid (show W1.cell? ⟨w.heap.size,0,none⟩=some (.bool g)∧W1.cell? ⟨w.heap.size,1,none⟩=some (.slice a n c)∧W1.cell? ⟨w.heap.size+1,0,none⟩=some (.bool k)∧W1.cell? ⟨w.heap.size+1,1,none⟩=some (.slice b m d)∧W1.cell? ⟨w.heap.size+1+1,0,none⟩=some (.bool false)∧W1.cell? ⟨w.heap.size+1+1,1,none⟩=some (.slice none 0 0) from by have hs:=HWs.out;refine⟨?_, ?_, ?_, ?_, ?_, ?_⟩<;>(refine(hb.cell (by dsimp only;omega)).trans ?_;rw[←hW];clear hW;go_simp))
   have HB:=Lib.hid (Below.refl (W.heap.size) W)
   have HZ:=fun(W1:World) (hb:W.heap.size≤W1.heap.size)=>Lib.hid (show w.heap.size<W1.heap.size∧w.heap.size+1<W1.heap.size∧w.heap.size+1+1<W1.heap.size from by have:=HWs.out;refine⟨?_, ?_, ?_⟩<;>omega)
   obtain⟨qx0,qx1,qx2,qx3,qx4,qx5⟩:=(HC _ HB.out).out
   obtain⟨rx0,rx1,rx2⟩:=(HZ _ HB.out.size).out
   have HQ:=Lib.hid (show W.rowIs (w.heap.size+1+1) 87 2 (nmF false (.slice none 0 0)) from by
    have:=World.rowIs_alloc ((w.alloc (.cells #[.bool g, .slice a n c] 87)).alloc (.cells #[.bool k, .slice b m d] 87)) #[.bool false, .slice none 0 0] 87 (nmF false (.slice none 0 0)) (fun i hi=>by rcases i with _|_|i<;>first|rfl|(simp at hi;omega))
    rw[hW] at this
    simpa using this)
   clear hW
   refine((HS _ HW.out).out).mono ?_
   rintro e w1 ⟨rfl,hb4⟩
   have HB:=bnx HB HBW hb4
   clear qx0 qx1 qx2 qx3 qx4 qx5 rx0 rx1 rx2
   obtain⟨qx0,qx1,qx2,qx3,qx4,qx5⟩:=(HC _ HB.out).out
   clear hb4
   obtain⟨rx0,rx1,rx2⟩:=(HZ _ HB.out.size).out
   go_wp2_with fail
   clear qx0 qx1 qx2 qx3 qx4 qx5 rx0 rx1 rx2
   have HY:=fun(w':World) (t:Below W.heap.size W w')=>Lib.hid (show w'.cell? ⟨w.heap.size,0,none⟩=some (.bool g)∧w'.cell? ⟨w.heap.size,1,none⟩=some (.slice a n c)∧w'.cell? ⟨w.heap.size+1,0,none⟩=some (.bool k)∧w'.cell? ⟨w.heap.size+1,1,none⟩=some (.slice b m d) from by
    obtain⟨d0,d1,d2,d3, -⟩:=(HC _ t).out
    exact⟨d0,d1,d2,d3⟩)
   have HS0:=Lib.hid HB.out.drew
   refine wp_region_noPanic ?_
   refine wp_region_par3 9 9 (by kernel_rfl) (by kernel_rfl) (by simp) (by omega) (by kernel_rfl) (by kernel_rfl) (fun w':World=>Below W.heap.size W w') ?_
   refine par3_move (v:= ?_) 0 (by simp only[zga,zgb,zgc];rfl) (by kernel_rfl) (by rfl) ?_ (fun _ _ _ h=>h) ?_
   rotate_left
   ·(intro w9;go_simp;try with_reducible rfl)
   simp only[Act.put,zpa,zpb,zpc]
   refine par3_read (v:= ?_) 1 (by simp only[zga,zgb,zgc];rfl) (by kernel_rfl) (by rfl) HS0.out ?_ (fun _ _ _ h=>h) ?_
   rotate_left
   ·(intro w9 hSw;obtain⟨y0,y1,y2,y3⟩:=(HY w9 hSw).out;clear hSw;go_simp;try with_reducible rfl)
   simp only[Act.put,zpa,zpb,zpc]
   refine par3_move (v:= ?_) 2 (by simp only[zga,zgb,zgc];rfl) (by kernel_rfl) (by rfl) ?_ (fun _ _ _ h=>h) ?_
   rotate_left
   ·(intro w9;go_simp;try with_reducible rfl)
   simp only[Act.put,zpa,zpb,zpc]
   refine par3_read (v:= ?_) 3 (by simp only[zga,zgb,zgc];rfl) (by kernel_rfl) (by rfl) HS0.out ?_ (fun _ _ _ h=>h) ?_
   rotate_left
   ·(intro w9 hSw;obtain⟨y0,y1,y2,y3⟩:=(HY w9 hSw).out;clear hSw;go_simp;try with_reducible rfl)
   simp only[Act.put,zpa,zpb,zpc]
   refine par3_move (v:= ?_) 4 (by simp only[zga,zgb,zgc];rfl) (by kernel_rfl) (by rfl) ?_ (fun _ _ _ h=>h) ?_
   rotate_left
   ·(intro w9;go_simp;try with_reducible rfl)
   simp only[Act.put,zpa,zpb,zpc]
   refine par3_read (v:= ?_) 5 (by simp only[zga,zgb,zgc];rfl) (by kernel_rfl) (by rfl) HS0.out ?_ (fun _ _ _ h=>h) ?_
   rotate_left
   ·(intro w9 hSw;obtain⟨y0,y1,y2,y3⟩:=(HY w9 hSw).out;clear hSw;go_simp;try with_reducible rfl)
   simp only[Act.put,zpa,zpb,zpc]
   refine par3_nm (fun W0 hW0=> ?_)
   rw[←hW0] at HS0
   clear hW0
   refine par3_one 6 (by simp only[zga,zgb,zgc];rfl) (by kernel_rfl) (by rfl) ?_
   refine owp_call (by go_simp;constructor<;>rfl) ?_
   refine(HMI _ (HW.out.trans (HS0.out.mono HW.out.size))).out.mono ?_
   rintro z W6 ⟨⟨ra,rn,rc,rfl,hrn,hown⟩,hb6⟩
   have HS6:=Lib.hid (below_next HS0.out HS0.out.size hb6)
   have HO6:=Lib.hid hown
   have HRN:=Lib.hid hrn
   refine⟨_,rfl,fun s _=>HS6.out, ?_⟩
   clear hb6 hown hrn
   simp only[Act.put,zpa,zpb,zpc]
   refine par3_move (v:= ?_) 7 (by simp only[zga,zgb,zgc];rfl) (by kernel_rfl) (by rfl) ?_ (fun _ _ _ h=>h) ?_
   rotate_left
   ·(intro w9;go_simp;try with_reducible rfl)
   simp only[Act.put,zpa,zpb,zpc]
   refine par3_one 8 (by simp only[zga,zgb,zgc];rfl) (by kernel_rfl) (by rfl) ?_
   refine owp_call (by go_simp;constructor<;>rfl) ?_
   refine(r3trim_any (own_ns HO6.out HRN.out) (Nat.le_refl _) (by have:=HRN.out;have:=HLN.out;omega) (own_cap HO6.out)).mono ?_
   rintro z W8 ⟨rfl,hb8⟩
   have HS8:=Lib.hid (below_next HS6.out HS6.out.size hb8)
   have HO8:=Lib.hid (ownsRow_touch HO6.out (Touch.of_below (F:=[]) hb8) (by simp))
   refine⟨_,rfl,fun s _=>HS8.out, ?_⟩
   clear hb8
   simp only[Act.put,zpa,zpb,zpc]
   have HQ8:=Lib.hid (rowIs_touch HQ.out (Touch.of_below (F:=[]) HS8.out) (by simp))
   have hlo:w.heap.size+1+1<W0.heap.size:=by have:=HWs.out;have:=HS0.out.size;omega
   have HOF:=Lib.hid (fun(x y:Value)=>ownsRow_touch HO8.out (((Touch.refl [w.heap.size+1+1] W8).setCell (p:=⟨w.heap.size+1+1,0,none⟩) (.inl (by simp)) x).setCell (p:=⟨w.heap.size+1+1,1,none⟩) (.inl (by simp)) y) (fun q hq hm=>by have:=(HO8.out.lt q hq).1;simp at hm;omega))
   have f0:=fun i=>World.rowIs.frozen HQ8.out i
   have q0:W8.cell? ⟨w.heap.size+1+1,0,none⟩=some (.bool false):=World.rowIs.cell HQ8.out (i:=0) (by decide)
   have q1:W8.cell? ⟨w.heap.size+1+1,1,none⟩=some (.slice none 0 0):=World.rowIs.cell HQ8.out (i:=1) (by decide)
   obtain⟨tg,htg⟩: ∃y,y=(if trimD (minusL q l 0)=[] then false else k):=⟨_,rfl⟩
   obtain⟨tn,htn⟩: ∃y,y=(trimD (minusL q l 0)).length:=⟨_,rfl⟩
   have HTG:=Lib.hid (show tg=(if trimD (minusL q l 0)=[] then false else k)∧tn=(trimD (minusL q l 0)).length from⟨htg,htn⟩)
   rw[←htg, ←htn]
   clear htg htn
   refine par3_tail _ (by simp only[List.drop_succ_cons,List.drop_zero];rfl) (by kernel_rfl) ?_
   go_wp2_with fail
   refine NoPanic.normal ?_
   go_wp2_with fail
   refine bodyPost_ret_by (res_nm (g:=tg) (v:= .slice ra tn rc) Tryz.results65 rfl (World.rowIs.congr (World.rowIs.set (World.rowIs.set HQ8.out 0 _) 1 _) (fun i hi=>by rcases i with _|_|i<;>first|rfl|exact absurd hi (by omega)))) rfl ?_
   refine⟨⟨_,rfl, ?_⟩,((HW.out.trans (HS8.out.mono HW.out.size)).setCell (p:=⟨w.heap.size+1+1,0,none⟩) (by show _≤w.heap.size+1+1;omega) _).setCell (p:=⟨w.heap.size+1+1,1,none⟩) (by show _≤w.heap.size+1+1;omega) _⟩
   rw[HTG.out.1,HTG.out.2]
   exact(NmV.trim (HOF.out _ _) HRN.out HPO.out k HPV.out).weak (by omega)
 ·have hne:g=k:=by simpa using hgk
  obtain⟨N,hN⟩: ∃N,N=max n m+1:=⟨_,rfl⟩
  have HPO:=Lib.hid (plusL_ok (n:=N) (a:=l) (b:=q) (c:=0))
  have hpv:=plusL_val (n:=N) (c:=0) hd.ok hq.ok (by omega) (by omega) (by omega) (by omega)
  have HPV:Hid ((if g=true then -valD (plusL N l q 0) else valD (plusL N l q 0))=x+y):=Lib.hid (by
   rw[hpv,v1,v2]
   cases g<;>cases k<;>simp at hg hk hne ⊢ <;>omega)
  have hln:=plusL_len (n:=N) (c:=0) hd.ok hq.ok (by omega) (by omega)
  have HLN:Hid ((plusL N l q 0).length≤100):=Lib.hid (by omega)
  have HMI:=fun(W:World) (hb:Below w.heap.size w W)=>Lib.hid (r3plus_any (w:=W) (ca:=c) (cb:=d) (hn.below (hb.mono hB)) (hm.below (hb.mono hB)) hd.ok hq.ok (Nat.le_trans hB hb.size) (by omega) (by omega))
  rw[←hN] at HMI
  clear hn hm hc he hd hq bx by_ hg hk v1 v2 e1 e2 l1 l2 hpv hln hN hne
  go_enter Tryz.func65,Tryz.ntmps65
  go_wp2_with fail
  first|refine wp_name (fun W hW=> ?_)|refine calls_name (fun W hW=> ?_)
  have HW:Hid (Below w.heap.size w W):=Lib.hid (by rw[←hW];repeat (first|exact Below.refl _ _|refine below_alloc ?_))
  have HWs:Hid (W.heap.size=w.heap.size+1+1+1):=Lib.hid (by rw[←hW];simp)
  have HBW:Hid (W.heap.size≤W.heap.size):=Lib.hid (by have:=HWs.out;omega)
  have HC:=fun(W1:World) (hb:Below (W.heap.size) W W1)=>Lib.hid (show W1.cell? ⟨w.heap.size,0,none⟩=some (.bool g)∧W1.cell? ⟨w.heap.size,1,none⟩=some (.slice a n c)∧W1.cell? ⟨w.heap.size+1,0,none⟩=some (.bool k)∧W1.cell? ⟨w.heap.size+1,1,none⟩=some (.slice b m d)∧W1.cell? ⟨w.heap.size+1+1,0,none⟩=some (.bool false)∧W1.cell? ⟨w.heap.size+1+1,1,none⟩=some (.slice none 0 0) from by have hs:=HWs.out;refine⟨?_, ?_, ?_, ?_, ?_, ?_⟩<;>(refine(hb.cell (by dsimp only;omega)).trans ?_;rw[←hW];clear hW;go_simp))
  have HB:=Lib.hid (Below.refl (W.heap.size) W)
  have HZ:=fun(W1:World) (hb:W.heap.size≤W1.heap.size)=>Lib.hid (show w.heap.size<W1.heap.size∧w.heap.size+1<W1.heap.size∧w.heap.size+1+1<W1.heap.size from by have:=HWs.out;refine⟨?_, ?_, ?_⟩<;>omega)
  obtain⟨qx0,qx1,qx2,qx3,qx4,qx5⟩:=(HC _ HB.out).out
  obtain⟨rx0,rx1,rx2⟩:=(HZ _ HB.out.size).out
  have HQ:=Lib.hid (show W.rowIs (w.heap.size+1+1) 87 2 (nmF false (.slice none 0 0)) from by
   have:=World.rowIs_alloc ((w.alloc (.cells #[.bool g, .slice a n c] 87)).alloc (.cells #[.bool k, .slice b m d] 87)) #[.bool false, .slice none 0 0] 87 (nmF false (.slice none 0 0)) (fun i hi=>by rcases i with _|_|i<;>first|rfl|(simp at hi;omega))
   rw[hW] at this
   simpa using this)
  clear hW
  go_wp2_with fail
  clear qx0 qx1 qx2 qx3 qx4 qx5 rx0 rx1 rx2
  have HY:=fun(w':World) (t:Below W.heap.size W w')=>Lib.hid (show w'.cell? ⟨w.heap.size,0,none⟩=some (.bool g)∧w'.cell? ⟨w.heap.size,1,none⟩=some (.slice a n c)∧w'.cell? ⟨w.heap.size+1,0,none⟩=some (.bool k)∧w'.cell? ⟨w.heap.size+1,1,none⟩=some (.slice b m d) from by
   obtain⟨d0,d1,d2,d3, -⟩:=(HC _ t).out
   exact⟨d0,d1,d2,d3⟩)
  have HS0:=Lib.hid HB.out.drew
  refine wp_region_noPanic ?_
  refine wp_region_par3 9 9 (by kernel_rfl) (by kernel_rfl) (by simp) (by omega) (by kernel_rfl) (by kernel_rfl) (fun w':World=>Below W.heap.size W w') ?_
  refine par3_move (v:= ?_) 0 (by simp only[zga,zgb,zgc];rfl) (by kernel_rfl) (by rfl) ?_ (fun _ _ _ h=>h) ?_
  rotate_left
  ·(intro w9;go_simp;try with_reducible rfl)
  simp only[Act.put,zpa,zpb,zpc]
  refine par3_read (v:= ?_) 1 (by simp only[zga,zgb,zgc];rfl) (by kernel_rfl) (by rfl) HS0.out ?_ (fun _ _ _ h=>h) ?_
  rotate_left
  ·(intro w9 hSw;obtain⟨y0,y1,y2,y3⟩:=(HY w9 hSw).out;clear hSw;go_simp;try with_reducible rfl)
  simp only[Act.put,zpa,zpb,zpc]
  refine par3_move (v:= ?_) 2 (by simp only[zga,zgb,zgc];rfl) (by kernel_rfl) (by rfl) ?_ (fun _ _ _ h=>h) ?_
  rotate_left
  ·(intro w9;go_simp;try with_reducible rfl)
  simp only[Act.put,zpa,zpb,zpc]
  refine par3_read (v:= ?_) 3 (by simp only[zga,zgb,zgc];rfl) (by kernel_rfl) (by rfl) HS0.out ?_ (fun _ _ _ h=>h) ?_
  rotate_left
  ·(intro w9 hSw;obtain⟨y0,y1,y2,y3⟩:=(HY w9 hSw).out;clear hSw;go_simp;try with_reducible rfl)
  simp only[Act.put,zpa,zpb,zpc]
  refine par3_move (v:= ?_) 4 (by simp only[zga,zgb,zgc];rfl) (by kernel_rfl) (by rfl) ?_ (fun _ _ _ h=>h) ?_
  rotate_left
  ·(intro w9;go_simp;try with_reducible rfl)
  simp only[Act.put,zpa,zpb,zpc]
  refine par3_read (v:= ?_) 5 (by simp only[zga,zgb,zgc];rfl) (by kernel_rfl) (by rfl) HS0.out ?_ (fun _ _ _ h=>h) ?_
  rotate_left
  ·(intro w9 hSw;obtain⟨y0,y1,y2,y3⟩:=(HY w9 hSw).out;clear hSw;go_simp;try with_reducible rfl)
  simp only[Act.put,zpa,zpb,zpc]
  refine par3_nm (fun W0 hW0=> ?_)
  rw[←hW0] at HS0
  clear hW0
  refine par3_one 6 (by simp only[zga,zgb,zgc];rfl) (by kernel_rfl) (by rfl) ?_
  refine owp_call (by go_simp;constructor<;>rfl) ?_
  refine(HMI _ (HW.out.trans (HS0.out.mono HW.out.size))).out.mono ?_
  rintro z W6 ⟨⟨ra,rn,rc,rfl,hrn,hown⟩,hb6⟩
  have HS6:=Lib.hid (below_next HS0.out HS0.out.size hb6)
  have HO6:=Lib.hid hown
  have HRN:=Lib.hid hrn
  refine⟨_,rfl,fun s _=>HS6.out, ?_⟩
  clear hb6 hown hrn
  simp only[Act.put,zpa,zpb,zpc]
  refine par3_move (v:= ?_) 7 (by simp only[zga,zgb,zgc];rfl) (by kernel_rfl) (by rfl) ?_ (fun _ _ _ h=>h) ?_
  rotate_left
  ·(intro w9;go_simp;try with_reducible rfl)
  simp only[Act.put,zpa,zpb,zpc]
  refine par3_one 8 (by simp only[zga,zgb,zgc];rfl) (by kernel_rfl) (by rfl) ?_
  refine owp_call (by go_simp;constructor<;>rfl) ?_
  refine(r3trim_any (own_ns HO6.out HRN.out) (Nat.le_refl _) (by have:=HRN.out;have:=HLN.out;omega) (own_cap HO6.out)).mono ?_
  rintro z W8 ⟨rfl,hb8⟩
  have HS8:=Lib.hid (below_next HS6.out HS6.out.size hb8)
  have HO8:=Lib.hid (ownsRow_touch HO6.out (Touch.of_below (F:=[]) hb8) (by simp))
  refine⟨_,rfl,fun s _=>HS8.out, ?_⟩
  clear hb8
  simp only[Act.put,zpa,zpb,zpc]
  have HQ8:=Lib.hid (rowIs_touch HQ.out (Touch.of_below (F:=[]) HS8.out) (by simp))
  have hlo:w.heap.size+1+1<W0.heap.size:=by have:=HWs.out;have:=HS0.out.size;omega
  have HOF:=Lib.hid (fun(x y:Value)=>ownsRow_touch HO8.out (((Touch.refl [w.heap.size+1+1] W8).setCell (p:=⟨w.heap.size+1+1,0,none⟩) (.inl (by simp)) x).setCell (p:=⟨w.heap.size+1+1,1,none⟩) (.inl (by simp)) y) (fun q hq hm=>by have:=(HO8.out.lt q hq).1;simp at hm;omega))
  have f0:=fun i=>World.rowIs.frozen HQ8.out i
  have q0:W8.cell? ⟨w.heap.size+1+1,0,none⟩=some (.bool false):=World.rowIs.cell HQ8.out (i:=0) (by decide)
  have q1:W8.cell? ⟨w.heap.size+1+1,1,none⟩=some (.slice none 0 0):=World.rowIs.cell HQ8.out (i:=1) (by decide)
  obtain⟨tg,htg⟩: ∃y,y=(if trimD (plusL N l q 0)=[] then false else g):=⟨_,rfl⟩
  obtain⟨tn,htn⟩: ∃y,y=(trimD (plusL N l q 0)).length:=⟨_,rfl⟩
  have HTG:=Lib.hid (show tg=(if trimD (plusL N l q 0)=[] then false else g)∧tn=(trimD (plusL N l q 0)).length from⟨htg,htn⟩)
  rw[←htg, ←htn]
  clear htg htn
  refine par3_tail _ (by simp only[List.drop_succ_cons,List.drop_zero];rfl) (by kernel_rfl) ?_
  go_wp2_with fail
  refine NoPanic.normal ?_
  go_wp2_with fail
  refine bodyPost_ret_by (res_nm (g:=tg) (v:= .slice ra tn rc) Tryz.results65 rfl (World.rowIs.congr (World.rowIs.set (World.rowIs.set HQ8.out 0 _) 1 _) (fun i hi=>by rcases i with _|_|i<;>first|rfl|exact absurd hi (by omega)))) rfl ?_
  refine⟨⟨_,rfl, ?_⟩,((HW.out.trans (HS8.out.mono HW.out.size)).setCell (p:=⟨w.heap.size+1+1,0,none⟩) (by show _≤w.heap.size+1+1;omega) _).setCell (p:=⟨w.heap.size+1+1,1,none⟩) (by show _≤w.heap.size+1+1;omega) _⟩
  rw[HTG.out.1,HTG.out.2]
  exact(NmV.trim (HOF.out _ _) HRN.out HPO.out g HPV.out).weak (by omega)
end Go.Proofs.YthopjhifepijiaaGreat
namespace Go.Proofs.YthopjhifepijiaaGreat
open Go.RowKit Go.Joins
def digL:Nat→Int→List Int
 |0,_=>[]
 |n+1,r=>if r≤0 then [] else r % 65536::digL n (r / 65536)
theorem digL_ok: ∀ {n:Nat} {r:Int},okD (digL n r)
 |0,_=>by simp[okD,digL]
 |n+1,r=>by
  unfold digL
  split
  ·simp[okD]
  ·rw[okD_cons]
   exact⟨⟨Int.emod_nonneg _ (by decide),Int.emod_lt_of_pos _ (by decide)⟩,digL_ok⟩
theorem digL_zero (n:Nat) {r:Int} (h:r≤0):digL n r=[]:=by
 cases n with
 |zero=>rfl
 |succ n=>unfold digL;rw[if_pos h]
theorem digL_num {r:Int} (h0:0≤r) (h1:r<18446744073709551616):valD (digL 5 r)=r∧topD (digL 5 r):=by
 have step: ∀(n:Nat) (r:Int),0≤r→(r / 65536=0∨(valD (digL n (r / 65536))=r / 65536∧topD (digL n (r / 65536))))→valD (digL (n+1) r)=r∧topD (digL (n+1) r):=fun n r h0 h=>by
  unfold digL
  by_cases hr:r≤0
  ·rw[if_pos hr]
   exact⟨by show(0:Int)=r;omega,by simp[topD]⟩
  ·rw[if_neg hr]
   rcases h with h|⟨h2,h3⟩
   ·rw[h,digL_zero n (Int.le_refl 0)]
    refine⟨by show r % 65536+65536*0=r;omega, ?_⟩
    unfold topD
    simp
    omega
   ·refine⟨by show r % 65536+65536*valD (digL n (r / 65536))=r;rw[h2];omega, ?_⟩
    unfold topD at*
    cases hd:digL n (r / 65536) with
    |nil=>
     rw[hd] at h2
     have:(0:Int)=r / 65536:=h2
     simp
     omega
    |cons y l=>
     rw[hd] at h3
     rw[List.getLast?_cons_cons]
     exact h3
 exact step 4 r h0 (.inr (step 3 _ (by omega) (.inr (step 2 _ (by omega) (.inr (step 1 _ (by omega) (.inr (step 0 _ (by omega) (.inl (by omega))))))))))
theorem digL_step {n:Nat} {r:Int} (h:0<r):digL (n+1) r=r % 65536::digL n (r / 65536):=by
 show(if r≤0 then [] else r % 65536::digL n (r / 65536))=_
 rw[if_neg (by omega)]
theorem Tryz.results66:Tryz.f66.results= #[.cell 2 87]:=by kernel_rfl
def bdS:Nat→Int
 |0=>288230376151711744
 |1=>4398046511104
 |2=>67108864
 |3=>1024
 |_=>0
theorem bdS_next {r:Int} {j:Nat} (h:r≤bdS j) (h0:0<r):r / 65536≤bdS (j+1)∧j+1≤5∧r≤288230376151711744:=by
 rcases j with _|_|_|_|j<;>simp[bdS] at h ⊢ <;>omega
structure NuS (W wr:World) (b:Nat) (g:Bool) (T:List Int) (r:Int) (j:Nat) (o:List Int) (ov:Value):Prop where
 row:wr.rowIs b 87 2 (nmF g ov)
 own:wr.ownsRow W.heap.size 3 1 ov j (intC o)
 len:o.length=j
 r0:0≤r
 sum:o++digL (5 - j) r=T
 j5:j≤5
 stop:r≤bdS j
 tch:Touch [b] W wr
set_option maxRecDepth 100000 in
set_option maxHeartbeats 4000000 in
theorem r17num_any (x:Int) (w:World) (h1: -288230376151711744≤x) (h2:x≤288230376151711744):
  Calls Tryz.prog 66 #[.int .i64 x] w fun e w'=>(∃z,e= .returned z∧NmV w' w.heap.size w'.heap.size z x)∧Below w.heap.size w w':=by
 obtain⟨l0,hl,hl0,hl1,hl2⟩:=info_parts Tryz.infoIn9
 by_cases hx:x<0
 ·go_enter Tryz.func66,Tryz.ntmps66
  go_wp2_with fail
  first|refine wp_name (fun W hW=> ?_)|refine calls_name (fun W hW=> ?_)
  have HW:Hid (Below w.heap.size w W):=Lib.hid (by rw[←hW];repeat (first|exact Below.refl _ _|refine below_alloc ?_))
  have HWs:Hid (W.heap.size=w.heap.size+1+1):=Lib.hid (by rw[←hW];simp)
  have HBW:Hid (W.heap.size≤W.heap.size):=Lib.hid (by have:=HWs.out;omega)
  have HC:=fun(W1:World) (hb:Below (W.heap.size) W W1)=>Lib.hid (show W1.cell? ⟨w.heap.size,0,none⟩=some (.bool false)∧W1.cell? ⟨w.heap.size,1,none⟩=some (.slice none 0 0)∧W1.cell? ⟨w.heap.size+1,0,none⟩=some (.bool true)∧W1.cell? ⟨w.heap.size+1,1,none⟩=some (.slice none 0 0) from by have hs:=HWs.out;refine⟨?_, ?_, ?_, ?_⟩<;>(refine(hb.cell (by dsimp only;omega)).trans ?_;rw[←hW];clear hW;go_simp))
  have HB:=Lib.hid (Below.refl (W.heap.size) W)
  have HZ:=fun(W1:World) (hb:W.heap.size≤W1.heap.size)=>Lib.hid (show w.heap.size<W1.heap.size∧w.heap.size+1<W1.heap.size from by have:=HWs.out;refine⟨?_, ?_⟩<;>omega)
  obtain⟨qx0,qx1,qx2,qx3⟩:=(HC _ HB.out).out
  obtain⟨rx0,rx1⟩:=(HZ _ HB.out.size).out
  have HQ:=Lib.hid (show W.rowIs w.heap.size 87 2 (nmF false (.slice none 0 0)) from by
   have:=(World.rowIs_alloc w #[.bool false, .slice none 0 0] 87 (nmF false (.slice none 0 0)) (fun i hi=>by rcases i with _|_|i<;>first|rfl|(simp at hi;omega))).alloc (.cells #[.bool true, .slice none 0 0] 87)
   rw[hW] at this
   simpa using this)
  have HP:=Lib.hid (show W.rowIs (w.heap.size+1) 87 2 (nmF true (.slice none 0 0)) from by
   have:=World.rowIs_alloc (w.alloc (.cells #[.bool false, .slice none 0 0] 87)) #[.bool true, .slice none 0 0] 87 (nmF true (.slice none 0 0)) (fun i hi=>by rcases i with _|_|i<;>first|rfl|(simp at hi;omega))
   rw[hW] at this
   simpa using this)
  clear hW
  clear qx0 qx1 qx2 qx3 rx0 rx1
  have HNS:Hid (NuS W W (w.heap.size+1) true (digL 5 (-x)) (-x) 0 [] (.slice none 0 0)):=Lib.hid ⟨HP.out,World.ownsRow_nil _ _ _ _,rfl,by omega,rfl,by omega,by show _≤(288230376151711744:Int);omega,Touch.refl _ _⟩
  obtain⟨T,hT⟩: ∃T,T=digL 5 (-x):=⟨_,rfl⟩
  have HTT:=Lib.hid hT
  rw[←hT] at HNS
  clear hT HP
  go_loopw [0] (fun v wr=> ∃(r:Int) (j:Nat) (o:List Int) (ov:Value),v= .int .i64 r∧NuS W wr (w.heap.size+1) true T r j o ov) (fun v _=>(intOf v).toNat)
  case atStart=>exact⟨_,0,[],_,rfl,HNS.out⟩
  case round=>
   clear HNS
   obtain⟨r,j,o,ov,rfl,hI⟩:=hrel
   have HI:=Lib.hid hI
   have hr0:=hI.r0
   have hj5:=hI.j5
   have hst:=hI.stop
   have hs0:w.heap.size<wr.heap.size:=by have:=HWs.out;have:=hI.tch.size;omega
   have hs1:w.heap.size+1<wr.heap.size:=by have:=HWs.out;have:=hI.tch.size;omega
   have HX:=Lib.hid (HW.out.trans (Touch.below hI.tch HW.out.size (by intro b hb;simp at hb;omega)))
   have HQ1:=Lib.hid (rowIs_touch HQ.out hI.tch (by simp))
   have f0:=fun i=>World.rowIs.frozen hI.row i
   have c0:wr.cell? ⟨w.heap.size+1,0,none⟩=some (.bool true):=World.rowIs.cell hI.row (i:=0) (by decide)
   have c1:wr.cell? ⟨w.heap.size+1,1,none⟩=some ov:=World.rowIs.cell hI.row (i:=1) (by decide)
   have hov:=own_form hI.own
   clear hI
   by_cases hr:0<r
   ·obtain⟨hn1,hn2,hr2⟩:=bdS_next hst hr
    go_wp2_with (at_builtin;go_loud (refine wpList_append_near _ rfl (.tmp 14) (.tmp 17) 35 rfl W.heap.size 3 l0 (.int .i64 0) 1 8 Tryz.underlying35 hl hl0 hl1 hl2 rfl (by decide) ov j _ rfl (HI.out.own.alloc _) ⟨wr.heap.size,0,none⟩ 1 1 [.int .i64 (r % 65536)] rfl (by decide) rfl (cell_list_at _ [.int .i64 (r % 65536)] _ rfl) (by simp[Value.oneCell']) (by unfold maxLen;omega) (by omega) (by have:=HI.out.tch.size;simp;omega) ?_;intro g cap w5 hown hgr hat;have HOW:=Lib.hid hown;have k9:=(Touch.of_below (F:=ov.ownBlock.toList) (below_alloc (o:= .cells #[.int .i64 (r % 65536)] 3) (Below.refl wr.heap.size wr))).trans (Touch.of_grown hgr) (fun x hx=> .inl hx);have HM9:=Lib.hid (rowIs_touch HI.out.row k9 (own_not HI.out.own HI.out.row (by decide)));have HT9:=Lib.hid (HI.out.tch.trans k9 (fun q hq=> .inr (HI.out.own.lt q (Option.mem_toList.1 hq)).1));have hs5:=k9.size;clear hown hgr hat k9 f0 c0 c1;have f0:=fun i=>World.rowIs.frozen HM9.out i;have c1:w5.cell? ⟨w.heap.size+1,1,none⟩=some ov:=World.rowIs.cell HM9.out (i:=1) (by decide);have hs6:w.heap.size+1<w5.heap.size:=Nat.lt_of_lt_of_le hs1 hs5))
    go_roundw
    case rel=>
     refine⟨r / 65536,j+1,o++[r % 65536], .slice (some ⟨g,0,none⟩) (j+1) cap,by first|rfl|go_num, ?_⟩
     have hrow:=World.rowIs.congr (g:=nmF true (.slice (some ⟨g,0,none⟩) (j+1) cap)) (World.rowIs.set HM9.out 1 (.slice (some ⟨g,0,none⟩) (j+1) cap)) (fun i hi=>by rcases i with _|_|i<;>first|rfl|exact absurd hi (by omega))
     have hn5:5 - j=5 - (j+1)+1:=by omega
     refine⟨hrow, ?_,by simp[HI.out.len],by omega, ?_,hn2,hn1,HT9.out.setCell (.inl (by simp)) _⟩
     ·rw[intC_app]
      exact ownsRow_touch HOW.out ((Touch.refl [w.heap.size+1] w5).setCell (.inl (by simp)) _) (fun q hq hm=>by have:=(HOW.out.lt q hq).1;have:=HWs.out;simp at hm;omega)
     ·have:=HI.out.sum
      rw[hn5,digL_step hr] at this
      simpa using this
    case measure=>simp[intOf];omega
   ·obtain⟨ra,rc,rfl⟩:=hov
    have hr00:r=0:=by omega
    have F:=Lib.hid (show o=T from by have:=HI.out.sum;rw[hr00,digL_zero _ (Int.le_refl 0)] at this;simpa using this)
    have f1:=fun i=>World.rowIs.frozen HQ1.out i
    have q0:wr.cell? ⟨w.heap.size,0,none⟩=some (.bool false):=World.rowIs.cell HQ1.out (i:=0) (by decide)
    have q1:wr.cell? ⟨w.heap.size,1,none⟩=some (.slice none 0 0):=World.rowIs.cell HQ1.out (i:=1) (by decide)
    go_wp2_with fail
    refine bodyPost_ret_by (res_nm (g:=true) (v:= .slice ra j rc) Tryz.results66 rfl (World.rowIs.congr (World.rowIs.set (World.rowIs.set HQ1.out 0 _) 1 _) (fun i hi=>by rcases i with _|_|i<;>first|rfl|exact absurd hi (by omega)))) rfl ?_
    refine⟨⟨_,rfl, ?_⟩,(HX.out.setCell (by simp) _).setCell (by simp) _⟩
    have hown:=ownsRow_touch HI.out.own (((Touch.refl [w.heap.size] wr).setCell (p:=⟨w.heap.size,0,none⟩) (.inl (by simp)) (.bool true)).setCell (p:=⟨w.heap.size,1,none⟩) (.inl (by simp)) (.slice ra j rc)) (fun q hq hm=>by have:=(HI.out.own.lt q hq).1;have:=HWs.out;simp at hm;omega)
    have hd:=digL_num (r:=(-x)) (by omega) (by omega)
    refine⟨_,ra,j,rc,o,rfl,own_ns hown HI.out.len.symm,own_cap hown, ?_, .inr (fun q hq=>by have:=(hown.lt q.block (by subst hq;rfl)).1;have:=HWs.out;omega)⟩
    rw[F.out,HTT.out]
    exact⟨digL_ok,hd.2,by simp;omega,by rw[hd.1];omega⟩
 ·go_enter Tryz.func66,Tryz.ntmps66
  go_wp2_with fail
  first|refine wp_name (fun W hW=> ?_)|refine calls_name (fun W hW=> ?_)
  have HW:Hid (Below w.heap.size w W):=Lib.hid (by rw[←hW];repeat (first|exact Below.refl _ _|refine below_alloc ?_))
  have HWs:Hid (W.heap.size=w.heap.size+1+1):=Lib.hid (by rw[←hW];simp)
  have HBW:Hid (W.heap.size≤W.heap.size):=Lib.hid (by have:=HWs.out;omega)
  have HC:=fun(W1:World) (hb:Below (W.heap.size) W W1)=>Lib.hid (show W1.cell? ⟨w.heap.size,0,none⟩=some (.bool false)∧W1.cell? ⟨w.heap.size,1,none⟩=some (.slice none 0 0)∧W1.cell? ⟨w.heap.size+1,0,none⟩=some (.bool false)∧W1.cell? ⟨w.heap.size+1,1,none⟩=some (.slice none 0 0) from by have hs:=HWs.out;refine⟨?_, ?_, ?_, ?_⟩<;>(refine(hb.cell (by dsimp only;omega)).trans ?_;rw[←hW];clear hW;go_simp))
  have HB:=Lib.hid (Below.refl (W.heap.size) W)
  have HZ:=fun(W1:World) (hb:W.heap.size≤W1.heap.size)=>Lib.hid (show w.heap.size<W1.heap.size∧w.heap.size+1<W1.heap.size from by have:=HWs.out;refine⟨?_, ?_⟩<;>omega)
  obtain⟨qx0,qx1,qx2,qx3⟩:=(HC _ HB.out).out
  obtain⟨rx0,rx1⟩:=(HZ _ HB.out.size).out
  have HQ:=Lib.hid (show W.rowIs w.heap.size 87 2 (nmF false (.slice none 0 0)) from by
   have:=(World.rowIs_alloc w #[.bool false, .slice none 0 0] 87 (nmF false (.slice none 0 0)) (fun i hi=>by rcases i with _|_|i<;>first|rfl|(simp at hi;omega))).alloc (.cells #[.bool false, .slice none 0 0] 87)
   rw[hW] at this
   simpa using this)
  have HP:=Lib.hid (show W.rowIs (w.heap.size+1) 87 2 (nmF false (.slice none 0 0)) from by
   have:=World.rowIs_alloc (w.alloc (.cells #[.bool false, .slice none 0 0] 87)) #[.bool false, .slice none 0 0] 87 (nmF false (.slice none 0 0)) (fun i hi=>by rcases i with _|_|i<;>first|rfl|(simp at hi;omega))
   rw[hW] at this
   simpa using this)
  clear hW
  clear qx0 qx1 qx2 qx3 rx0 rx1
  have HNS:Hid (NuS W W (w.heap.size+1) false (digL 5 (x)) (x) 0 [] (.slice none 0 0)):=Lib.hid ⟨HP.out,World.ownsRow_nil _ _ _ _,rfl,by omega,rfl,by omega,by show _≤(288230376151711744:Int);omega,Touch.refl _ _⟩
  obtain⟨T,hT⟩: ∃T,T=digL 5 (x):=⟨_,rfl⟩
  have HTT:=Lib.hid hT
  rw[←hT] at HNS
  clear hT HP
  go_loopw [0] (fun v wr=> ∃(r:Int) (j:Nat) (o:List Int) (ov:Value),v= .int .i64 r∧NuS W wr (w.heap.size+1) false T r j o ov) (fun v _=>(intOf v).toNat)
  case atStart=>exact⟨_,0,[],_,rfl,HNS.out⟩
  case round=>
   clear HNS
   obtain⟨r,j,o,ov,rfl,hI⟩:=hrel
   have HI:=Lib.hid hI
   have hr0:=hI.r0
   have hj5:=hI.j5
   have hst:=hI.stop
   have hs0:w.heap.size<wr.heap.size:=by have:=HWs.out;have:=hI.tch.size;omega
   have hs1:w.heap.size+1<wr.heap.size:=by have:=HWs.out;have:=hI.tch.size;omega
   have HX:=Lib.hid (HW.out.trans (Touch.below hI.tch HW.out.size (by intro b hb;simp at hb;omega)))
   have HQ1:=Lib.hid (rowIs_touch HQ.out hI.tch (by simp))
   have f0:=fun i=>World.rowIs.frozen hI.row i
   have c0:wr.cell? ⟨w.heap.size+1,0,none⟩=some (.bool false):=World.rowIs.cell hI.row (i:=0) (by decide)
   have c1:wr.cell? ⟨w.heap.size+1,1,none⟩=some ov:=World.rowIs.cell hI.row (i:=1) (by decide)
   have hov:=own_form hI.own
   clear hI
   by_cases hr:0<r
   ·obtain⟨hn1,hn2,hr2⟩:=bdS_next hst hr
    go_wp2_with (at_builtin;go_loud (refine wpList_append_near _ rfl (.tmp 14) (.tmp 17) 35 rfl W.heap.size 3 l0 (.int .i64 0) 1 8 Tryz.underlying35 hl hl0 hl1 hl2 rfl (by decide) ov j _ rfl (HI.out.own.alloc _) ⟨wr.heap.size,0,none⟩ 1 1 [.int .i64 (r % 65536)] rfl (by decide) rfl (cell_list_at _ [.int .i64 (r % 65536)] _ rfl) (by simp[Value.oneCell']) (by unfold maxLen;omega) (by omega) (by have:=HI.out.tch.size;simp;omega) ?_;intro g cap w5 hown hgr hat;have HOW:=Lib.hid hown;have k9:=(Touch.of_below (F:=ov.ownBlock.toList) (below_alloc (o:= .cells #[.int .i64 (r % 65536)] 3) (Below.refl wr.heap.size wr))).trans (Touch.of_grown hgr) (fun x hx=> .inl hx);have HM9:=Lib.hid (rowIs_touch HI.out.row k9 (own_not HI.out.own HI.out.row (by decide)));have HT9:=Lib.hid (HI.out.tch.trans k9 (fun q hq=> .inr (HI.out.own.lt q (Option.mem_toList.1 hq)).1));have hs5:=k9.size;clear hown hgr hat k9 f0 c0 c1;have f0:=fun i=>World.rowIs.frozen HM9.out i;have c1:w5.cell? ⟨w.heap.size+1,1,none⟩=some ov:=World.rowIs.cell HM9.out (i:=1) (by decide);have hs6:w.heap.size+1<w5.heap.size:=Nat.lt_of_lt_of_le hs1 hs5))
    go_roundw
    case rel=>
     refine⟨r / 65536,j+1,o++[r % 65536], .slice (some ⟨g,0,none⟩) (j+1) cap,by first|rfl|go_num, ?_⟩
     have hrow:=World.rowIs.congr (g:=nmF false (.slice (some ⟨g,0,none⟩) (j+1) cap)) (World.rowIs.set HM9.out 1 (.slice (some ⟨g,0,none⟩) (j+1) cap)) (fun i hi=>by rcases i with _|_|i<;>first|rfl|exact absurd hi (by omega))
     have hn5:5 - j=5 - (j+1)+1:=by omega
     refine⟨hrow, ?_,by simp[HI.out.len],by omega, ?_,hn2,hn1,HT9.out.setCell (.inl (by simp)) _⟩
     ·rw[intC_app]
      exact ownsRow_touch HOW.out ((Touch.refl [w.heap.size+1] w5).setCell (.inl (by simp)) _) (fun q hq hm=>by have:=(HOW.out.lt q hq).1;have:=HWs.out;simp at hm;omega)
     ·have:=HI.out.sum
      rw[hn5,digL_step hr] at this
      simpa using this
    case measure=>simp[intOf];omega
   ·obtain⟨ra,rc,rfl⟩:=hov
    have hr00:r=0:=by omega
    have F:=Lib.hid (show o=T from by have:=HI.out.sum;rw[hr00,digL_zero _ (Int.le_refl 0)] at this;simpa using this)
    have f1:=fun i=>World.rowIs.frozen HQ1.out i
    have q0:wr.cell? ⟨w.heap.size,0,none⟩=some (.bool false):=World.rowIs.cell HQ1.out (i:=0) (by decide)
    have q1:wr.cell? ⟨w.heap.size,1,none⟩=some (.slice none 0 0):=World.rowIs.cell HQ1.out (i:=1) (by decide)
    go_wp2_with fail
    refine bodyPost_ret_by (res_nm (g:=false) (v:= .slice ra j rc) Tryz.results66 rfl (World.rowIs.congr (World.rowIs.set (World.rowIs.set HQ1.out 0 _) 1 _) (fun i hi=>by rcases i with _|_|i<;>first|rfl|exact absurd hi (by omega)))) rfl ?_
    refine⟨⟨_,rfl, ?_⟩,(HX.out.setCell (by simp) _).setCell (by simp) _⟩
    have hown:=ownsRow_touch HI.out.own (((Touch.refl [w.heap.size] wr).setCell (p:=⟨w.heap.size,0,none⟩) (.inl (by simp)) (.bool false)).setCell (p:=⟨w.heap.size,1,none⟩) (.inl (by simp)) (.slice ra j rc)) (fun q hq hm=>by have:=(HI.out.own.lt q hq).1;have:=HWs.out;simp at hm;omega)
    have hd:=digL_num (r:=(x)) (by omega) (by omega)
    refine⟨_,ra,j,rc,o,rfl,own_ns hown HI.out.len.symm,own_cap hown, ?_, .inr (fun q hq=>by have:=(hown.lt q.block (by subst hq;rfl)).1;have:=HWs.out;omega)⟩
    rw[F.out,HTT.out]
    exact⟨digL_ok,hd.2,by simp;omega,by rw[hd.1];omega⟩
end Go.Proofs.YthopjhifepijiaaGreat
