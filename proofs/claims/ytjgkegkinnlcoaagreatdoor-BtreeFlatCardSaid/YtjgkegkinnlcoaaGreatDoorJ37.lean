/- Lemmas on the way to the statement. -/
import Derived.Test.YtjgkegkinnlcoaaGreatDoorJ34
set_option linter.unusedSimpArgs false
set_option linter.unusedVariables false
namespace Go.Proofs.YtjgkegkinnlcoaaGreatDoor
open Go.RowKit Go.Maps Go.Joins
section
variable {w0 w w1 w':World} {p K J k:Nat} {M M':PM} {X Y:List Nat}
theorem pf_pages (h:PgF w0 w p K M X) (hK:K≤1000000000000):
  Calls Tryz.prog 31 #[.pointer (some ⟨p,0,none⟩)] w fun e w'=>e= .returned (.int .i64 (pagesP M))∧PgF w0 w' p (K+2) M X∧SameX X w w':=by
 obtain⟨d,lb,pb,hb,FD,FP,h,hd,hx⟩:=h
 exact(pages_any h.pin (by omega)).mono fun e w' ⟨he,s⟩=>⟨he,PgF.go h hd hx (PgGo.of_step s) (.inl rfl)⟩
end
end Go.Proofs.YtjgkegkinnlcoaaGreatDoor
namespace Go.Proofs.YtjgkegkinnlcoaaGreatDoor
open Go.RowKit Go.Maps Go.Joins
section
variable {w0 w w1 w':World} {p K J k:Nat} {M M':PM} {X Y:List Nat}
theorem px_pages (h:PgX w0 w p K M X) (hK:K≤1000000000000):
  Calls Tryz.prog 31 #[.pointer (some ⟨p,0,none⟩)] w fun e w'=>e= .returned (.int .i64 (pagesP M))∧PgX w0 w' p (K+2) M X∧SameX X w w':=
 (pf_pages h.f hK).mono fun e w' ⟨h1,h2,h3⟩=>⟨h1,⟨h2,h.s⟩,h3⟩
end
end Go.Proofs.YtjgkegkinnlcoaaGreatDoor
namespace Go.Proofs.YtjgkegkinnlcoaaGreatDoor
open Go.RowKit
theorem insP_length (key val:Int) {l:List (Int × Int)} (h:RisP l):(insP key val l).length≤l.length+1:=by
 unfold insP
 rw[List.length_append,List.length_cons]
 have:(l.filter (fun p=>decide (p.1<key))).length+(l.filter (fun p=>decide (key<p.1))).length≤l.length:=by
  clear h
  induction l with
  |nil=>simp
  |cons p l ih=>
   rw[List.filter_cons,List.filter_cons,List.length_cons]
   by_cases h1:p.1<key
   ·have h2: ¬key<p.1:=by omega
    simp[h1,h2];omega
   ·by_cases h2:key<p.1
    ·simp[h1,h2];omega
    ·simp[h1,h2];omega
 omega
theorem delP_length (key:Int) (l:List (Int × Int)):(delP key l).length≤l.length:=List.length_filter_le _ _
end Go.Proofs.YtjgkegkinnlcoaaGreatDoor
namespace Go.Proofs.YtjgkegkinnlcoaaGreatDoor
open Go.RowKit Go.Maps Go.Joins
section
variable {w0 w w':World} {p K J i:Nat} {seg:List (Int × Int)} {X Y:List Nat}
theorem t_del (h:IsT w0 w p K i seg X) (hi:i<8) (hs:seg.length≤2600) (hK:K≤400000000000) (key:Int) (hk:0≤key∧key≤18446744073709551615):
  Calls Tryz.prog 16 #[.pointer (some ⟨p,0,none⟩), .int .i64 i, .int .u64 key] w fun e w'=>e= .returned (.int .i64 (refDelE key seg))∧IsT w0 w' p (K+2100) i (delP key seg) X∧SameX X w w':=by
 obtain⟨M,R,P,h,hb,hm,hr⟩:=h
 obtain⟨M',R',P',e1,e2,e3,e4⟩:=hb.del hi hs key
 refine(Del_any h (by omega) i key hk).mono ?_
 rw[e1]
 rintro e w' ⟨he,hp,hx⟩
 exact⟨he,⟨M',R',P',hp,e2,by omega,by omega⟩,hx⟩
theorem t_deep (h:IsT w0 w p K i seg X) (hi:i<8) (hs:seg.length≤2600) (hK:K≤400000000000):
  Calls Tryz.prog 26 #[.pointer (some ⟨p,0,none⟩), .int .i64 i] w fun e w'=> ∃d:Nat,e= .returned (.tuple #[.int .i64 d, .int .i64 0])∧(d≤3∧(d=0↔seg=[])∧(seg.length<30→d≤1)∧(seg.length<630→d≤2))∧IsT w0 w' p (K+100) i seg X∧SameX X w w':=by
 obtain⟨M,R,P,h,hb,hm⟩:=h
 obtain⟨d,e1,e2⟩:=hb.deep hi hs
 refine(Deep_any h (by omega) i).mono ?_
 rw[e1]
 rintro e w' ⟨he,hp,hx⟩
 exact⟨d,he,e2,⟨M,R,P,hp,hb,hm⟩,hx⟩
end
end Go.Proofs.YtjgkegkinnlcoaaGreatDoor
namespace Go.Proofs.YtjgkegkinnlcoaaGreatDoor
open Go.RowKit Go.Maps Go.Joins
structure ActD where
 b1:Int
 b2:Int
 key:Int
 step:Int
 val:Int
structure ActOk (x:ActD):Prop where
 u1:0≤x.b1∧x.b1≤255
 u2:0≤x.b2∧x.b2≤255
 k:0≤x.key∧x.key≤65535
 s:0≤x.step∧x.step≤65535
 v:0≤x.val∧x.val≤18446744073709551615
structure ActAt (w:World) (b o:Nat) (x:ActD):Prop where
 c0:w.cell? ⟨b,o,none⟩=some (.int .u8 x.b1)
 c1:w.cell? ⟨b,o+1,none⟩=some (.int .u8 x.b2)
 c2:w.cell? ⟨b,o+2,none⟩=some (.int .u16 x.key)
 c3:w.cell? ⟨b,o+3,none⟩=some (.int .u16 x.step)
 c4:w.cell? ⟨b,o+4,none⟩=some (.int .u64 x.val)
 ok:ActOk x
def ActsAt (w:World) (B lb off:Nat) (l:List ActD):Prop:=lb<B∧ ∀(k:Nat) (x:ActD),l[k]? =some x→ActAt w lb (off+k*5) x
theorem ActAt.below {w w':World} {B lb o:Nat} {x:ActD} (h:ActAt w lb o x) (hb:Below B w w') (hl:lb<B):ActAt w' lb o x:=
 ⟨(hb.cell (p:=⟨lb,o,none⟩) hl).trans h.c0,(hb.cell (p:=⟨lb,o+1,none⟩) hl).trans h.c1,(hb.cell (p:=⟨lb,o+2,none⟩) hl).trans h.c2,(hb.cell (p:=⟨lb,o+3,none⟩) hl).trans h.c3,(hb.cell (p:=⟨lb,o+4,none⟩) hl).trans h.c4,h.ok⟩
def ActsIn (w:World) (B:Nat) (a:Option Addr) (n:Nat) (l:List ActD):Prop:=n=l.length∧n≤9223372036854775807∧(n=0∨ ∃lb off,a=some ⟨lb,off,none⟩∧ActsAt w B lb off l)
theorem ActsIn.at_ {w w':World} {B n k:Nat} {a:Option Addr} {l:List ActD} (h:ActsIn w B a n l) (hb:Below B w w') (hk:k<n):
  ∃lb off x,a=some ⟨lb,off,none⟩∧ActAt w' lb (off+k*5) x∧lb<B:=by
 obtain⟨hn,hm,h0|⟨lb,off,rfl,hA⟩⟩:=h
 ·omega
 ·have hx:l[k]? =some (l[k]'(by omega)):=List.getElem?_eq_getElem _
  exact⟨lb,off,_,rfl,(hA.2 k _ hx).below hb hA.1,hA.1⟩
def actF (x:ActD):Nat→Value:=fun i=>match i with|0=> .int .u8 x.b1|1=> .int .u8 x.b2|2=> .int .u16 x.key|3=> .int .u16 x.step|_=> .int .u64 x.val
theorem act_new (w:World) (x:ActD):(w.alloc (.cells #[.int .u8 x.b1, .int .u8 x.b2, .int .u16 x.key, .int .u16 x.step, .int .u64 x.val] 30)).rowIs w.heap.size 30 5 (actF x):=
 World.rowIs_alloc w _ _ _ (fun i hi=>by rcases i with _|_|_|_|_|i<;>first|rfl|(simp at hi;omega))
theorem actF_cells {w:World} {b:Nat} {x:ActD} (h:w.rowIs b 30 5 (actF x)):w.cell? ⟨b,0,none⟩=some (.int .u8 x.b1)∧w.cell? ⟨b,1,none⟩=some (.int .u8 x.b2)∧w.cell? ⟨b,2,none⟩=some (.int .u16 x.key)∧w.cell? ⟨b,3,none⟩=some (.int .u16 x.step)∧w.cell? ⟨b,4,none⟩=some (.int .u64 x.val):=
 ⟨World.rowIs.cell h (i:=0) (by decide),World.rowIs.cell h (i:=1) (by decide),World.rowIs.cell h (i:=2) (by decide),World.rowIs.cell h (i:=3) (by decide),World.rowIs.cell h (i:=4) (by decide)⟩
end Go.Proofs.YtjgkegkinnlcoaaGreatDoor
namespace Go.Proofs.YtjgkegkinnlcoaaGreatDoor
open Go.ChangeShapes Go.WideShapes Go.Deep Go.Joins Go.RowKit
section
variable {H:Type} {enc:TypeId × Value→H} {P:Program} {w:World} {base:Nat} {spare:Nat→Bool} {held:Bool}
theorem open_slice_fields {t e:TypeId} {fs:Array Field} {fuel:Nat} {cs:List Value} {x:DataW H × List MemPlace} (ht:P.underlying t=some (.slice e)) (he:P.underlying e=some (.struct fs))
  (hone:oneCellFields P fs=true) (hC:P.cellsOf e=fs.size) (h:DataW.trod enc P w base spare held fuel t cs=some x):
  (cs=[.slice none 0 0]∧x=(.nil,[]))∨
  ∃(a:Addr) (len cap m:Nat) (D:Nat→DataW H) (Pl:Nat→List MemPlace),cs=[.slice (some a) len cap]∧base≤a.block∧len≤cap∧cap≤maxLen∧m=(if spare a.block then cap else len)∧
   x=(.slice ((List.range len).map D) ((List.range (m - len)).map fun j=>D (len+j)),MemPlace.row a (m*fs.size)++(List.range m).flatMap Pl)∧
   ∀i,i<m→ ∃(ys:List (DataW H × List MemPlace)) (n:Nat),D i= .agg (ys.map (·.1))∧Pl i=ys.flatMap (·.2)∧ys.length=fs.size∧
    ∀(j:Nat) (f:Field),fs[j]? =some f→ ∃(v:Value) (y:DataW H × List MemPlace),w.cell? (a.add (i*fs.size+j))=some v∧ys[j]? =some y∧DataW.trod enc P w base spare held n f.type [v]=some y:=by
 rcases open_slice ht h with h0|⟨a,len,cap,m,n,D,Pl,hcs,hb,hl,hm,hmm,hx,hi⟩
 ·exact .inl h0
 ·refine .inr ⟨a,len,cap,m,D,Pl,hcs,hb,hl,hm,hmm,by rw[hC] at hx;exact hx,fun i him=> ?_⟩
  obtain⟨cs',hc,ht'⟩:=hi i him
  rw[hC] at hc
  obtain⟨ys,n',hn',hy,hlen,hyl,hf⟩:=DataW.trod_struct he ht'
  obtain⟨_,hcl,hat⟩:=World.cells?_some hc
  simp only[Prod.mk.injEq] at hy
  refine⟨ys,n',hy.1,hy.2,hyl,fun j f hj=> ?_⟩
  obtain⟨ho,hk⟩:=hone_of hone j f hj
  have hjl:j<fs.size:=(Array.getElem?_eq_some_iff.1 hj).1
  have hcell:=hat j hjl
  have hv:cs'[j]? =some (cs'[j]'(by omega)):=List.getElem?_eq_getElem (by omega)
  have h1:=hf j f hj
  rw[ho,hk] at h1
  have hone':(cs'.drop j).take 1=[cs'[j]'(by omega)]:=by
   rw[List.drop_eq_getElem_cons (by omega)]
   rfl
  rw[hone'] at h1
  have hys:ys[j]? =some (ys[j]'(by omega)):=List.getElem?_eq_getElem (by omega)
  refine⟨_,_, ?_,hys,h1.trans hys⟩
  rw[←Go.Deep.add_add,hcell,hv]
end
end Go.Proofs.YtjgkegkinnlcoaaGreatDoor
namespace Go.Proofs.YtjgkegkinnlcoaaGreatDoor
open Go.ChangeShapes Go.WideShapes Go.ChangeAt Go.RowKit Go.Deep Go.Joins
theorem bd_u16o {x:Int} (h:(Lit.int .u16 x).wf=true):0≤x∧x≤65535:=by
 simp[Lit.wf,IntKind.min,IntKind.max,IntKind.signed,IntKind.bits] at h
 omega
theorem bd_u64o {x:Int} (h:(Lit.int .u64 x).wf=true):0≤x∧x≤18446744073709551615:=by
 simp[Lit.wf,IntKind.min,IntKind.max,IntKind.signed,IntKind.bits] at h
 omega
section
variable {H:Type} {enc:TypeId × Value→H} {W:World}
theorem open_act {lb o n:Nat} {v0 v1 v2 v3 v4:Value} {y0 y1 y2 y3 y4:DataW H × List MemPlace}
  (h0:W.cell? ⟨lb,o,none⟩=some v0) (h1:W.cell? ⟨lb,o+1,none⟩=some v1) (h2:W.cell? ⟨lb,o+2,none⟩=some v2) (h3:W.cell? ⟨lb,o+3,none⟩=some v3) (h4:W.cell? ⟨lb,o+4,none⟩=some v4)
  (g0:DataW.trod enc Tryz.prog W 0 (fun _=>true) true n 5 [v0]=some y0) (g1:DataW.trod enc Tryz.prog W 0 (fun _=>true) true n 5 [v1]=some y1) (g2:DataW.trod enc Tryz.prog W 0 (fun _=>true) true n 27 [v2]=some y2)
  (g3:DataW.trod enc Tryz.prog W 0 (fun _=>true) true n 27 [v3]=some y3) (g4:DataW.trod enc Tryz.prog W 0 (fun _=>true) true n 28 [v4]=some y4):
  ∃x,ActAt W lb o x:=by
 obtain⟨a0,e0,_,w0⟩:=DataW.trod_int Tryz.underlying5 g0
 obtain⟨a1,e1,_,w1⟩:=DataW.trod_int Tryz.underlying5 g1
 obtain⟨a2,e2,_,w2⟩:=DataW.trod_int Tryz.underlying27 g2
 obtain⟨a3,e3,_,w3⟩:=DataW.trod_int Tryz.underlying27 g3
 obtain⟨a4,e4,_,w4⟩:=DataW.trod_int Tryz.underlying28 g4
 simp only[List.cons.injEq,and_true] at e0 e1 e2 e3 e4
 subst e0 e1 e2 e3 e4
 exact⟨⟨a0,a1,a2,a3,a4⟩,h0,h1,h2,h3,h4,⟨bd_u8o w0,bd_u8o w1,bd_u16o w2,bd_u16o w3,bd_u64o w4⟩⟩
set_option maxRecDepth 100000 in
theorem open_acts {v:Value} {d:DataW H} {p:List MemPlace} (hv:Value.okWide Tryz.prog W .any 0 22 v) (h:DataW.Trod enc Tryz.prog W 0 (fun _=>true) true 22 v d p):
  ∃a n c l,v= .slice a n c∧ActsIn W W.heap.size a n l:=by
 obtain⟨a0,len0,cap0,rfl⟩:=okWide_slice Tryz.underlying22 hv
 obtain⟨fuel,hf⟩:=h
 rcases open_slice_fields Tryz.underlying22 Tryz.underlying30 (by kernel_rfl) (by kernel_rfl) hf with ⟨e,_⟩|⟨a,len,cap,m,D,Pl,e,_,hl,hm,hmm,_,hi⟩
 ·simp[Value.cells] at e
  obtain⟨rfl,rfl,rfl⟩:=e
  exact⟨_,_,_,[],rfl,rfl,by omega, .inl rfl⟩
 ·simp[Value.cells] at e
  obtain⟨rfl,rfl,rfl⟩:=e
  simp only[if_true] at hmm
  subst hmm
  have hm':m≤9223372036854775807:=hm
  by_cases h0:len0=0
  ·subst h0;exact⟨_,_,_,[],rfl,rfl,by omega, .inl rfl⟩
  ·obtain⟨lb,off,sp⟩:=a
   have hs:sp=none:=by
    obtain⟨ys,n,_,_,_,hf⟩:=hi 0 (by omega)
    obtain⟨v,y,hc,_⟩:=hf 0 _ rfl
    simpa[Addr.add] using World.cell?_spot hc
   subst hs
   have hlb:lb<W.heap.size:=by
    obtain⟨ys,n,_,_,_,hf⟩:=hi 0 (by omega)
    obtain⟨v,y,hc,_⟩:=hf 0 _ rfl
    rw[addr_add] at hc
    exact cell_lt hc
   obtain⟨l,hl',hP⟩:=list_of len0 (fun i x=>ActAt W lb (off+i*5) x) (fun i hlt=>by
    obtain⟨ys,n,_,_,_,hf⟩:=hi i (by omega)
    obtain⟨v0,y0,c0,_,g0⟩:=hf 0 _ rfl
    obtain⟨v1,y1,c1,_,g1⟩:=hf 1 _ rfl
    obtain⟨v2,y2,c2,_,g2⟩:=hf 2 _ rfl
    obtain⟨v3,y3,c3,_,g3⟩:=hf 3 _ rfl
    obtain⟨v4,y4,c4,_,g4⟩:=hf 4 _ rfl
    rw[addr_add] at c0 c1 c2 c3 c4
    exact open_act (o:=off+i*5) c0 c1 c2 c3 c4 g0 g1 g2 g3 g4)
   exact⟨_,_,_,l,rfl,hl'.symm,by omega, .inr ⟨lb,off,rfl,hlb,hP⟩⟩
end
end Go.Proofs.YtjgkegkinnlcoaaGreatDoor
namespace Go.Proofs.YtjgkegkinnlcoaaGreatDoor
open Go.RowKit
section
variable {M:PM} {R:RM} {N:Nat} {G:Int}
theorem pages_of_rd {M':PM} (e:rdP M' 0=rdP M 0):pagesP M'=pagesP M:=by unfold pagesP;rw[e]
theorem pages_set {no kind:Int} {r:ByteArray} (h:no≠0):pagesP (setP M no kind r).2=pagesP M:=pages_of_rd (setP_rd no kind r (fun e=>h e.symm))
theorem usedR_bds (r:ByteArray):0≤usedR r∧usedR r<4294967296:=cut_bd4 r 0
theorem within_pos {no:Int} (h:withinP M no=true):1≤no∧no<pagesP M:=by
 unfold withinP at h
 exact of_decide_eq_true h
theorem pages_ok (h:0<pagesP M):(rdP M 0).2.2=0∧pagesP M=usedR (rdP M 0).2.1∧M.m.down=false:=by
 unfold pagesP at h ⊢
 by_cases e:(rdP M 0).2.2=0
 ·refine⟨e,if_pos e, ?_⟩
  cases hd:M.m.down
  ·rfl
  ·rw[rdP_dn hd] at e;cases e
 ·rw[if_neg e] at h
  omega
theorem pages_write (no kind:Int) (r:ByteArray):pagesP (writeP M no kind r).2=pagesP M:=by
 unfold writeP
 split
 ·rename_i h
  exact pages_set (by have:=within_pos h.1;omega)
 ·rfl
theorem pages_free (no:Int):pagesP (freeP M no).2=pagesP M:=by
 unfold freeP
 split
 ·rfl
 ·rename_i hw
  have hw:withinP M no=true:=by simpa using hw
  obtain⟨h1,h2⟩:=within_pos hw
  obtain⟨e0,e1,hd⟩:=pages_ok (M:=M) (by omega)
  split
  ·rfl
  ·split
   ·rfl
   ·simp only
    have hs:pagesP (setP M no 255 (S (leB (freeR (rdP M 0).2.1) 4))).2=pagesP M:=pages_set (by omega)
    split
    ·exact hs
    ·rw[←hs]
     obtain⟨u0,u1⟩:=usedR_bds (rdP M 0).2.1
     unfold setHeadP
     rcases setP_zero (M:=(setP M no 255 (S (leB (freeR (rdP M 0).2.1) 4))).2) (headR (usedR (rdP M 0).2.1) no (rdP M 0).2.1) (by rw[setP_m];exact hd) with e|e
     ·exact pages_of_rd e
     ·rw[hs,e1]
      unfold pagesP
      rw[e]
      simp only
      rw[if_pos trivial]
      unfold headR
      exact(used_fill u0 (by omega) (by omega) (by omega)).1
theorem pages_setRoot (i n:Int):pagesP (setRootP M i n).2=pagesP M:=by
 unfold setRootP
 split
 ·rfl
 ·split
  ·rfl
  ·rename_i hi he
   have he:(rdP M 0).2.2=0:=by simpa using he
   have hz:=rdP_size he
   have hd:M.m.down=false:=by
    cases hd:M.m.down
    ·rfl
    ·rw[rdP_dn hd] at he;cases he
   rcases setP_zero (M:=M) (rootR (rdP M 0).2.1 i.toNat n) hd with e|e
   ·exact pages_of_rd e
   ·have hc: ∀a,a+4≤8→cut (fillR (rootR (rdP M 0).2.1 i.toNat n) 496) a 4=cut (rdP M 0).2.1 a 4:=fun a ha=>by
     unfold fillR rootR
     rw[data_S,extract_cut,data_S,cut_S]
     have hl:(cut (rdP M 0).2.1 0 (8+8*i.toNat - 0)).length=8+8*i.toNat:=by rw[Nat.sub_zero,cut_length _ _ _ (by omega)]
     rw[List.append_assoc,List.drop_append_of_le_length (by omega),List.take_append_of_le_length (by rw[List.length_drop];omega)]
     unfold cut
     rw[List.drop_zero,List.drop_take,List.take_take,Nat.min_eq_left (by omega)]
    unfold pagesP
    rw[e,he]
    simp only
    rw[if_pos trivial,if_pos trivial]
    unfold usedR
    rw[hc 0 (by omega)]
theorem pages_feed (n:ND) (i:Nat):pagesP (feedB M n i).2.2=pagesP M:=by
 unfold feedB
 simp only
 split
 ·rfl
 ·split
  ·rfl
  ·split
   ·rfl
   ·split
    ·split
     ·exact pages_free _
     ·exact(pages_write _ _ _).trans (pages_free _)
    ·split
     ·exact pages_write _ _ _
     ·exact(pages_write _ _ _).trans (pages_write _ _ _)
theorem pages_end (no:Int) (n:ND):pagesP (endD M no n).2.2=pagesP M:=by
 unfold endD
 split
 ·rfl
 ·exact pages_write _ _ _
theorem pages_del (key:Int): ∀(f:Nat) (M:PM) (no:Int),pagesP (delL key f M no).2.2=pagesP M
 |0,M,no=>rfl
 |f+1,M,no=>by
  have ih:=pages_del key f M
  unfold delL
  simp only
  split
  ·rfl
  ·split
   ·split
    ·rfl
    ·exact pages_end _ _
   ·split
    ·exact ih _
    ·split
     ·split
      ·exact(pages_feed _ _).trans (ih _)
      ·exact(pages_end _ _).trans ((pages_feed _ _).trans (ih _))
     ·exact(pages_end _ _).trans (ih _)
theorem pages_delB (root key:Int):pagesP (delB M root key).2=pagesP M:=by
 unfold delB
 simp only
 split
 ·rfl
 ·split
  ·exact pages_del _ _ _ _
  ·split
   ·exact pages_del _ _ _ _
   ·split
    ·exact(pages_setRoot _ _).trans (pages_del _ _ _ _)
    ·exact(pages_free _).trans ((pages_setRoot _ _).trans (pages_del _ _ _ _))
end
end Go.Proofs.YtjgkegkinnlcoaaGreatDoor
namespace Go.Proofs.YtjgkegkinnlcoaaGreatDoor
open Go.RowKit
section
variable {M:PM} {R:RM} {N:Nat} {G:Int} {i:Nat} {seg:List (Int × Int)} {P:List Int}
theorem TrAt.reads: ∀ {h:Nat} {no:Int} {seg:List (Int × Int)} {pgs:List Int},TrAt M h no seg pgs→ ∀q∈pgs,(ndRead M q).1=0
 |0,no,seg,pgs,⟨n,h1,h2,h3,h4⟩,q,hq=>by
  rw[h4,List.mem_singleton] at hq
  rw[hq,h1]
 |h+1,no,seg,pgs,⟨n,kz,h1,h2,h3,h4,h5,h6,h7⟩,q,hq=>by
  rw[h6,List.mem_cons] at hq
  rcases hq with rfl|hq
  ·rw[h1]
  ·obtain⟨l,hl,hq⟩:=List.mem_flatten.1 hq
   obtain⟨z,hz,rfl⟩:=List.mem_map.1 hl
   exact(h4 z hz).1.reads q hq
theorem nd_kind {q:Int} (h:(ndRead M q).1=0):(readP M q).2.2=0∧((readP M q).1=2∨(readP M q).1=3):=by
 unfold ndRead at h
 simp only at h
 split at h
 ·rename_i h1;exact absurd h h1
 ·rename_i h1
  split at h
  ·cases h
  ·rename_i h2
   refine⟨by simpa using h1, ?_⟩
   unfold ndC at h2
   simp only[Bool.not_eq_false] at h2
   simp at h2
   omega
theorem BtI.kinds (h:BtI M R N G i seg P): ∀q∈P,(readP M q).2.2=0∧((readP M q).1=2∨(readP M q).1=3):=fun q hq=>by
 obtain⟨k,t⟩:=h.root
 rcases t with ⟨-, -,rfl, -⟩|⟨-,t⟩
 ·cases hq
 ·exact nd_kind (t.reads q hq)
def sortP (P:List Int):List Int:=P.mergeSort fun x y=>decide (x≤y)
theorem sortP_len (P:List Int):(sortP P).length=P.length:=List.length_mergeSort P
theorem sortP_mem {P:List Int} {q:Int}:q∈sortP P↔q∈P:=List.mem_mergeSort
theorem sortP_lt {P:List Int} (h:P.Nodup):(sortP P).Pairwise (· < ·):=by
 have h1:(sortP P).Pairwise (fun x y=>decide (x≤y)=true):=List.pairwise_mergeSort (fun a b c h1 h2=>by simp at h1 h2 ⊢;omega) (fun a b=>by simp;omega) P
 have h2:(sortP P).Nodup:=(List.mergeSort_perm P _).nodup_iff.2 h
 exact(h1.and h2).imp (fun⟨a,b⟩=>by simp at a;omega)
theorem RootAt.none_iff {h:Nat} (t:RootAt M R i h seg P):P=[]↔seg=[]:=by
 rcases t with ⟨-,rfl,rfl, -⟩|⟨-,t⟩
 ·simp
 ·obtain⟨n,h1,h2,h3,rest,h4⟩:=t.head
  exact⟨fun e=>(by rw[h4] at e;cases e),fun e=>absurd e t.some⟩
theorem drop_del {j:Nat} {p:Int × Int} (h:RisP seg) (hp:seg[j]? =some p):delP p.1 (seg.drop j)=seg.drop (j+1)∧refDelE p.1 (seg.drop j)=0:=by
 obtain⟨hj,rfl⟩:=List.getElem?_eq_some_iff.1 hp
 have e:seg.drop j=seg[j]::seg.drop (j+1):=List.drop_eq_getElem_cons hj
 have hr:RisP (seg.drop j):=List.Pairwise.sublist (List.drop_sublist j seg) h
 rw[e] at hr ⊢
 obtain⟨h1,h2⟩:=List.pairwise_cons.1 hr
 refine⟨?_, ?_⟩
 ·unfold delP
  rw[List.filter_cons_of_neg (by simp)]
  exact filter_all (fun p hp=>by have:=h1 p hp;simp;omega)
 ·unfold refDelE hasP
  simp
theorem BtI.bare (h:BtI M R N G i [] P) (hi:i<8):rootP M i=(0,0)∧ ∀q:Nat,1≤q→(q:Int)<lenR R→(readP M q).1=255:=by
 obtain⟨k,t⟩:=h.root
 rcases t with ⟨e, -,rfl, -⟩|⟨-,t⟩
 rotate_left
 ·exact absurd rfl t.some
 have hu:=h.use
 have hlen:lenR R=R.way.kinds.length:=rfl
 refine⟨by rw[h.rel.rootAt hi,e],fun q q1 q2=> ?_⟩
 have hmem:(q:Int)∈R.way.free:=by
  by_cases hm:(q:Int)∈R.way.free
  ·exact hm
  ·exfalso
   have h1:((q:Int)::R.way.free).Nodup:=List.nodup_cons.2 ⟨hm,h.rel.way.nd⟩
   have h2:((q:Int)::R.way.free) ⊆ (List.range (R.way.kinds.length - 1)).map (fun n:Nat=>((n:Int)+1)):=fun x hx=>by
    have hb:1≤x∧x<R.way.kinds.length:=by
     rcases List.mem_cons.1 hx with rfl|hx
     ·exact⟨by omega,by omega⟩
     ·have:=h.rel.way.fr x hx;exact⟨this.1,this.2.1⟩
    rw[List.mem_map]
    exact⟨(x - 1).toNat,List.mem_range.2 (by omega),by omega⟩
   have h3:=h1.length_le_of_subset h2
   simp at h3 hu
   omega
 have hf:=(h.rel.way.fr _ hmem).2.2
 rw[h.rel.readC (by omega) q2]
 unfold pgC
 simp only
 rw[List.getD_eq_getElem?_getD,hf]
 rfl
end
end Go.Proofs.YtjgkegkinnlcoaaGreatDoor
