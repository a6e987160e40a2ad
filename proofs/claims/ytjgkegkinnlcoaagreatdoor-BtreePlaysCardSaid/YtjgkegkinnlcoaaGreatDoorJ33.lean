/- Lemmas on the way to the statement: Structs, Acts13Open. -/
import Derived.Test.YtjgkegkinnlcoaaGreatDoorJ31
set_option linter.unusedSimpArgs false
set_option linter.unusedVariables false
namespace Go.Proofs.YtjgkegkinnlcoaaGreatDoor
open Go.ChangeShapes Go.WideShapes Go.Deep Go.Joins Go.RowKit
section
variable {H:Type} {enc:TypeId × Value→H} {P:Program} {w:World} {base:Nat} {spare:Nat→Bool} {held:Bool}
theorem open_slice_fields {t e:TypeId} {fs:Array Field} {fuel:Nat} {cs:List Value} {x:DataW H × List MemPlace} (ht:P.underlying t=some (.slice e)) (he:P.underlying e=some (.struct fs))
  (hone:oneCellFields P fs=true) (hC:P.cellsOf e=fs.size) (h:DataW.trod enc P w base spare held fuel t cs=some x):
  (cs=[.slice none 0 0]∧x=(.nil,[]))∨
  ∃(a:Addr) (len cap m:Nat) (D:Nat→DataW H) (Pl:Nat→List MemPlace),cs=[.slice (some a) len cap]∧base≤a.block∧len≤cap∧cap≤maxLen∧m=(if spare a.block then cap else len)∧
   x=(.slice ((List.range len).map D) ((List.range (m - len)).map fun j=>D (len+j)),MemPlace.row a (m*fs.size)++(List.range m).flatMap Pl)∧
   ∀i,i<m→ ∃(ys:List (DataW H × List MemPlace)) (n:Nat),D i= .agg (ys.map (·.1))∧Pl i=ys.flatMap (·.2)∧ys.length=fs.size∧
    ∀(j:Nat) (f:Field),fs[j]? =some f→ ∃(v:Value) (y:DataW H × List MemPlace),w.cell? (a.add (i*fs.size+j))=some v∧ys[j]? =some y∧DataW.trod enc P w base spare held n f.type [v]=some y:=by
 rcases open_slice ht h with h0|⟨a,len,cap,m,n,D,Pl,hcs,hb,hl,hm,hmm,hx,hi⟩
 ·exact .inl h0
 ·refine .inr ⟨a,len,cap,m,D,Pl,hcs,hb,hl,hm,hmm,by rw[hC] at hx;exact hx,fun i him=> ?_⟩
  obtain⟨cs',hc,ht'⟩:=hi i him
  rw[hC] at hc
  obtain⟨ys,n',hn',hy,hlen,hyl,hf⟩:=DataW.trod_struct he ht'
  obtain⟨_,hcl,hat⟩:=World.cells?_some hc
  simp only[Prod.mk.injEq] at hy
  refine⟨ys,n',hy.1,hy.2,hyl,fun j f hj=> ?_⟩
  obtain⟨ho,hk⟩:=hone_of hone j f hj
  have hjl:j<fs.size:=(Array.getElem?_eq_some_iff.1 hj).1
  have hcell:=hat j hjl
  have hv:cs'[j]? =some (cs'[j]'(by omega)):=List.getElem?_eq_getElem (by omega)
  have h1:=hf j f hj
  rw[ho,hk] at h1
  have hone':(cs'.drop j).take 1=[cs'[j]'(by omega)]:=by
   rw[List.drop_eq_getElem_cons (by omega)]
   rfl
  rw[hone'] at h1
  have hys:ys[j]? =some (ys[j]'(by omega)):=List.getElem?_eq_getElem (by omega)
  refine⟨_,_, ?_,hys,h1.trans hys⟩
  rw[←Go.Deep.add_add,hcell,hv]
end
end Go.Proofs.YtjgkegkinnlcoaaGreatDoor
namespace Go.Proofs.YtjgkegkinnlcoaaGreatDoor
open Go.ChangeShapes Go.WideShapes Go.ChangeAt Go.RowKit Go.Deep Go.Joins
theorem bd_u8o {x:Int} (h:(Lit.int .u8 x).wf=true):0≤x∧x≤255:=by
 simp[Lit.wf,IntKind.min,IntKind.max,IntKind.signed,IntKind.bits] at h
 omega
theorem bd_u16o {x:Int} (h:(Lit.int .u16 x).wf=true):0≤x∧x≤65535:=by
 simp[Lit.wf,IntKind.min,IntKind.max,IntKind.signed,IntKind.bits] at h
 omega
section
variable {H:Type} {enc:TypeId × Value→H} {W:World}
theorem open_act {lb o n:Nat} {v0 v1 v2 v3 v4:Value} {y0 y1 y2 y3 y4:DataW H × List MemPlace}
  (h0:W.cell? ⟨lb,o,none⟩=some v0) (h1:W.cell? ⟨lb,o+1,none⟩=some v1) (h2:W.cell? ⟨lb,o+2,none⟩=some v2) (h3:W.cell? ⟨lb,o+3,none⟩=some v3) (h4:W.cell? ⟨lb,o+4,none⟩=some v4)
  (g0:DataW.trod enc Tryz.prog W 0 (fun _=>true) true n 5 [v0]=some y0) (g1:DataW.trod enc Tryz.prog W 0 (fun _=>true) true n 5 [v1]=some y1) (g2:DataW.trod enc Tryz.prog W 0 (fun _=>true) true n 27 [v2]=some y2)
  (g3:DataW.trod enc Tryz.prog W 0 (fun _=>true) true n 27 [v3]=some y3) (g4:DataW.trod enc Tryz.prog W 0 (fun _=>true) true n 28 [v4]=some y4):
  ∃x,ActAt W lb o x:=by
 obtain⟨a0,e0,_,w0⟩:=DataW.trod_int Tryz.underlying5 g0
 obtain⟨a1,e1,_,w1⟩:=DataW.trod_int Tryz.underlying5 g1
 obtain⟨a2,e2,_,w2⟩:=DataW.trod_int Tryz.underlying27 g2
 obtain⟨a3,e3,_,w3⟩:=DataW.trod_int Tryz.underlying27 g3
 obtain⟨a4,e4,_,w4⟩:=DataW.trod_int Tryz.underlying28 g4
 simp only[List.cons.injEq,and_true] at e0 e1 e2 e3 e4
 subst e0 e1 e2 e3 e4
 exact⟨⟨a0,a1,a2,a3,a4⟩,h0,h1,h2,h3,h4,⟨bd_u8o w0,bd_u8o w1,bd_u16o w2,bd_u16o w3,bd_u64o w4⟩⟩
set_option maxRecDepth 100000 in
theorem open_acts {v:Value} {d:DataW H} {p:List MemPlace} (hv:Value.okWide Tryz.prog W .any 0 22 v) (h:DataW.Trod enc Tryz.prog W 0 (fun _=>true) true 22 v d p):
  ∃a n c l,v= .slice a n c∧ActsIn W W.heap.size a n l:=by
 obtain⟨a0,len0,cap0,rfl⟩:=okWide_slice Tryz.underlying22 hv
 obtain⟨fuel,hf⟩:=h
 rcases open_slice_fields Tryz.underlying22 Tryz.underlying30 (by kernel_rfl) (by kernel_rfl) hf with ⟨e,_⟩|⟨a,len,cap,m,D,Pl,e,_,hl,hm,hmm,_,hi⟩
 ·simp[Value.cells] at e
  obtain⟨rfl,rfl,rfl⟩:=e
  exact⟨_,_,_,[],rfl,rfl,by omega, .inl rfl⟩
 ·simp[Value.cells] at e
  obtain⟨rfl,rfl,rfl⟩:=e
  simp only[if_true] at hmm
  subst hmm
  have hm':m≤9223372036854775807:=hm
  by_cases h0:len0=0
  ·subst h0;exact⟨_,_,_,[],rfl,rfl,by omega, .inl rfl⟩
  ·obtain⟨lb,off,sp⟩:=a
   have hs:sp=none:=by
    obtain⟨ys,n,_,_,_,hf⟩:=hi 0 (by omega)
    obtain⟨v,y,hc,_⟩:=hf 0 _ rfl
    simpa[Addr.add] using World.cell?_spot hc
   subst hs
   have hlb:lb<W.heap.size:=by
    obtain⟨ys,n,_,_,_,hf⟩:=hi 0 (by omega)
    obtain⟨v,y,hc,_⟩:=hf 0 _ rfl
    rw[addr_add] at hc
    exact cell_lt hc
   obtain⟨l,hl',hP⟩:=list_of len0 (fun i x=>ActAt W lb (off+i*5) x) (fun i hlt=>by
    obtain⟨ys,n,_,_,_,hf⟩:=hi i (by omega)
    obtain⟨v0,y0,c0,_,g0⟩:=hf 0 _ rfl
    obtain⟨v1,y1,c1,_,g1⟩:=hf 1 _ rfl
    obtain⟨v2,y2,c2,_,g2⟩:=hf 2 _ rfl
    obtain⟨v3,y3,c3,_,g3⟩:=hf 3 _ rfl
    obtain⟨v4,y4,c4,_,g4⟩:=hf 4 _ rfl
    rw[addr_add] at c0 c1 c2 c3 c4
    exact open_act (o:=off+i*5) c0 c1 c2 c3 c4 g0 g1 g2 g3 g4)
   exact⟨_,_,_,l,rfl,hl'.symm,by omega, .inr ⟨lb,off,rfl,hlb,hP⟩⟩
end
end Go.Proofs.YtjgkegkinnlcoaaGreatDoor
