/- Lemmas on the way to the statement. -/
import Derived.Test.YthopjhifepijiaaJ6
import Derived.Deep.Fields
import Derived.Deep.Slices
import Derived.OpenShut
import Derived.SizedLaws
set_option linter.unusedSimpArgs false
set_option linter.unusedVariables false
namespace Go.Proofs.Ythopjhifepijiaa
open Go.ChangeShapes Go.WideShapes Go.Deep Go.Joins Go.RowKit
theorem trodAll_keep {H:Type} {enc:TypeId × Value→H} {P:Program} (hl:laidOutB P=true) {W W':World} (hb:Below W.heap.size W W') {sp:Nat→Bool}:
  ∀(ts:List TypeId) (vs:List Value) (ds:List (DataW H)) (p:List MemPlace),ts.all (fun t=>P.readableRec t&&decide (t<P.types.size))=true→DataW.TrodAll enc P W 0 (fun _=>true) true ts vs ds p→
   (∀x∈p,x.block<W.heap.size)→(∀x∈p,sp x.block=true)→DataW.TrodAll enc P W' 0 sp true ts vs ds p
 | [],[],[],p,_,h,_,_=>h
 | [],[],_::_,p,_,h,_,_=>h.elim
 | [],_::_,_,p,_,h,_,_=>h.elim
 |_::_,[],_,p,_,h,_,_=>h.elim
 |_::_,_::_,[],p,_,h,_,_=>h.elim
 |t::ts,v::vs,d::ds,p,ha,h,hlt,hsp=>by
  obtain⟨p1,q,h1,h2,rfl⟩:=h
  simp only[List.all_cons,Bool.and_eq_true,decide_eq_true_eq] at ha
  exact⟨p1,q,WideElems.Trod_stays hl ha.1.1 ha.1.2 h1 (fun x hx=>hb.same (hlt x (by simp[hx]))) (fun x hx=>hsp x (by simp[hx])),
   trodAll_keep hl hb ts vs ds q (by simpa using ha.2) h2 (fun x hx=>hlt x (by simp[hx])) (fun x hx=>hsp x (by simp[hx])),rfl⟩
end Go.Proofs.Ythopjhifepijiaa
namespace Go.Proofs.Ythopjhifepijiaa
open Go.ChangeShapes Go.WideShapes Go.ChangeAt Go.RowKit Go.Deep Go.Joins
theorem addr_add7 (b:Nat) (o i:Nat):(⟨b,o,none⟩:Addr).add i=⟨b,o+i,none⟩:=by unfold Addr.add;split<;>simp_all
theorem getL7 {α:Type} {xs:List α} {n i:Nat} (h:xs.length=n) (hi:i<n): ∃y,xs[i]? =some y:=⟨_,List.getElem?_eq_getElem (by omega)⟩
theorem list_of7 {α:Type}: ∀(n:Nat) (P:Nat→α→Prop),(∀i,i<n→ ∃x,P i x)→ ∃l:List α,l.length=n∧ ∀(i:Nat) (x:α),l[i]? =some x→P i x
 |0,P,_=>⟨[],rfl,fun i x h=>by simp at h⟩
 |n+1,P,h=>by
  obtain⟨l,hl,hP⟩:=list_of7 n P (fun i hi=>h i (by omega))
  obtain⟨x,hx⟩:=h n (by omega)
  refine⟨l++[x],by simp[hl],fun i y hy=> ?_⟩
  by_cases hi:i<n
  ·rw[List.getElem?_append_left (by omega)] at hy;exact hP i y hy
  ·have hlt:=(List.getElem?_eq_some_iff.1 hy).1
   simp[hl] at hlt
   obtain rfl:i=n:=by omega
   rw[List.getElem?_append_right (by omega),hl] at hy
   simp at hy;subst hy;exact hx
theorem bd_int7 {x:Int} (h:(Lit.int .i64 x).wf=true):fitI x:=by
 simp[Lit.wf,IntKind.min,IntKind.max,IntKind.signed,IntKind.bits] at h
 unfold fitI
 omega
section
variable {H:Type} {enc:TypeId × Value→H} {W:World} {base:Nat} {sp:Nat→Bool} {held:Bool} {n:Nat} {cs:List Value} {x:DataW H × List MemPlace}
theorem open_rows7 {α:Type} {P:Program} {t e:TypeId} {size:Nat} {C:α→List Value} {F:α→Prop} (ht:P.underlying t=some (.slice e)) (hC:P.cellsOf e=size) (hz: ∀v,(C v).length=size) (hpos:0<size)
  (hd: ∀ {n:Nat} {cs:List Value} {x:DataW H × List MemPlace},DataW.trod enc P W base sp held n e cs=some x→ ∃v,cs=C v∧F v) (h:DataW.trod enc P W base sp held n t cs=some x):
  ∃(a:Option Addr) (n c:Nat) (l:List α),cs=[.slice a n c]∧n=l.length∧n≤c∧(∀v∈l,F v)∧(n=0∨ ∃b off,a=some ⟨b,off,none⟩∧b<W.heap.size∧ ∀(i:Nat) (v:α),l[i]? =some v→ ∀(j:Nat) (u:Value),(C v)[j]? =some u→W.cell? ⟨b,off+i*size+j,none⟩=some u):=by
 rcases open_slice ht h with ⟨e,_⟩|⟨a,len,cap,m,n',D,Pl,e,_,hl,hm,hmm,_,hc⟩
 ·exact⟨none,0,0,[],e,rfl,Nat.le_refl _,by simp, .inl rfl⟩
 ·have hlm:len≤m:=by rw[hmm];split<;>omega
  obtain⟨l,hll,hPF⟩:=list_of7 len (fun i v=>(∀(j:Nat) (u:Value),(C v)[j]? =some u→W.cell? (a.add (i*size+j))=some u)∧F v) (fun i hi=>by
   obtain⟨cs',h1,h2⟩:=hc i (by omega)
   obtain⟨v,rfl,hF⟩:=hd h2
   obtain⟨_,_,hat⟩:=World.cells?_some h1
   refine⟨v,fun j u hu=> ?_,hF⟩
   have:=hat j (by rw[hC, ←hz v];exact(List.getElem?_eq_some_iff.1 hu).1)
   rw[hC,hu] at this
   rw[←Go.Deep.add_add]
   exact this)
  have hP:=fun i v h=>(hPF i v h).1
  have hFF: ∀v∈l,F v:=fun v hv=>by
   obtain⟨i,hi⟩:=List.mem_iff_getElem?.1 hv
   exact(hPF i v hi).2
  by_cases h0:len=0
  ·exact⟨some a,len,cap,l,e,hll.symm,hl,hFF, .inl h0⟩
  ·obtain⟨b,off,s⟩:=a
   obtain⟨v,hv⟩:=getL7 hll (show 0<len by omega)
   obtain⟨u,hu⟩:=getL7 (hz v) hpos
   have h1:=hP 0 v hv 0 u hu
   have hs:s=none:=by simpa[Addr.add] using World.cell?_spot h1
   subst hs
   rw[addr_add7] at h1
   refine⟨_,len,cap,l,e,hll.symm,hl,hFF, .inr ⟨b,off,rfl,cell_lt h1,fun i v hv j u hu=> ?_⟩⟩
   have:=hP i v hv j u hu
   rw[addr_add7, ←Nat.add_assoc] at this
   exact this
theorem dec_int7 (h:(DataW.trod enc Try.prog W base sp held) n 3 cs=some x): ∃a,cs=[.int .i64 a]∧fitI a:=by
 obtain⟨a,e,_,hw⟩:=DataW.trod_int Try.underlying3 h
 exact⟨a,e,bd_int7 hw⟩
theorem sz_int7:Try.prog.cellsOf 3=1:=by kernel_rfl
theorem sz_point7:Try.prog.cellsOf 51=2:=by kernel_rfl
theorem sz_vertex7:Try.prog.cellsOf 53=3:=by kernel_rfl
theorem sz_edge7:Try.prog.cellsOf 63=3:=by kernel_rfl
set_option maxRecDepth 100000 in
theorem dec_point7 (h:(DataW.trod enc Try.prog W base sp held) n 51 cs=some x): ∃q:Pt,cs=[.int .i64 q.x, .int .i64 q.y]∧fitP q:=by
 obtain⟨xs,m,_,_,hl,hlen,hf⟩:=DataW.trod_struct Try.underlying51 h
 rw[sz_point7] at hl
 match cs,hl with
 | [c0,c1],_=>
  obtain⟨y0,e0⟩:=getL7 hlen (i:=0) (by simp)
  obtain⟨y1,e1⟩:=getL7 hlen (i:=1) (by simp)
  have h0:=(hf 0 _ rfl).trans e0
  have h1:=(hf 1 _ rfl).trans e1
  simp[sz_int7] at h0 h1
  obtain⟨a,ha,fa⟩:=dec_int7 h0
  obtain⟨b,hb,fb⟩:=dec_int7 h1
  simp at ha hb
  exact⟨⟨a,b⟩,by rw[ha,hb],fa.1,fa.2,fb.1,fb.2⟩
set_option maxRecDepth 100000 in
theorem dec_vertex7 (h:(DataW.trod enc Try.prog W base sp held) n 53 cs=some x): ∃v:Vx,cs=[.int .i64 v.id, .int .i64 v.at_.x, .int .i64 v.at_.y]∧fitI v.id∧fitP v.at_:=by
 obtain⟨xs,m,_,_,hl,hlen,hf⟩:=DataW.trod_struct Try.underlying53 h
 rw[sz_vertex7] at hl
 match cs,hl with
 | [c0,c1,c2],_=>
  obtain⟨y0,e0⟩:=getL7 hlen (i:=0) (by simp)
  obtain⟨y1,e1⟩:=getL7 hlen (i:=1) (by simp)
  have h0:=(hf 0 _ rfl).trans e0
  have h1:=(hf 1 _ rfl).trans e1
  simp[sz_int7,sz_point7] at h0 h1
  obtain⟨a,ha,fa⟩:=dec_int7 h0
  obtain⟨q,hb,fq⟩:=dec_point7 h1
  simp at ha hb
  exact⟨⟨a,q⟩,by rw[ha,hb.1,hb.2],fa,fq⟩
set_option maxRecDepth 100000 in
theorem dec_edge7 (h:(DataW.trod enc Try.prog W base sp held) n 63 cs=some x): ∃v:Ed,cs=[.int .i64 v.id, .int .i64 v.a, .int .i64 v.b]∧fitI v.id∧fitI v.a∧fitI v.b:=by
 obtain⟨xs,m,_,_,hl,hlen,hf⟩:=DataW.trod_struct Try.underlying63 h
 rw[sz_edge7] at hl
 match cs,hl with
 | [c0,c1,c2],_=>
  obtain⟨y0,e0⟩:=getL7 hlen (i:=0) (by simp)
  obtain⟨y1,e1⟩:=getL7 hlen (i:=1) (by simp)
  obtain⟨y2,e2⟩:=getL7 hlen (i:=2) (by simp)
  have h0:=(hf 0 _ rfl).trans e0
  have h1:=(hf 1 _ rfl).trans e1
  have h2:=(hf 2 _ rfl).trans e2
  simp[sz_int7] at h0 h1 h2
  obtain⟨a,ha,fa⟩:=dec_int7 h0
  obtain⟨b,hb,fb⟩:=dec_int7 h1
  obtain⟨c,hc,fc⟩:=dec_int7 h2
  simp at ha hb hc
  exact⟨⟨a,b,c⟩,by rw[ha,hb,hc],fa,fb,fc⟩
theorem open_agg2' {P:Program} {spare:Nat→Bool} {r:Reach} {b0:Nat} {t:TypeId} {f0 f1:Field} {v:Value} {d:DataW H} {p:List MemPlace} (hs:P.underlying t=some (.struct #[f0,f1])) (hone:oneCellFields P #[f0,f1]=true) (hC:P.cellsOf t=2)
  (hv:Value.okWide P W r b0 t v) (h:DataW.Trod enc P W base spare held t v d p):
  ∃(v0 v1:Value) (y0 y1:DataW H × List MemPlace) (n:Nat),v= .agg #[v0,v1]∧DataW.trod enc P W base spare held n f0.type [v0]=some y0∧DataW.trod enc P W base spare held n f1.type [v1]=some y1:=by
 obtain⟨cs,rfl,hsz⟩:=okWide_struct hs hv
 obtain⟨l⟩:=cs
 match l,hsz.trans hC with
 | [c0,c1],_=>
  obtain⟨fuel,hf⟩:=h
  obtain⟨xs,n,_,hx,_,hlen,hg⟩:=DataW.trod_struct hs hf
  obtain⟨o0,k0⟩:=hone_of hone 0 f0 rfl
  obtain⟨o1,k1⟩:=hone_of hone 1 f1 rfl
  match xs,hlen with
  | [y0,y1],_=>
   exact⟨c0,c1,y0,y1,n,rfl,by simpa[Value.cells,o0,k0] using hg 0 f0 rfl,by simpa[Value.cells,o1,k1] using hg 1 f1 rfl⟩
end
section
variable {H:Type} {enc:TypeId × Value→H} {W:World}
structure PlIn (W:World) (va ea:Option Addr) (vn en ec:Nat) (p:PL):Prop where
 vs:VsIn W W.heap.size va vn p.vs
 es:EsIn W W.heap.size ea en p.es
 cap:en≤ec
 fit:FitPL p
set_option maxRecDepth 100000 in
theorem open_plan {v:Value} {d:DataW H} {p:List MemPlace} (hv:Value.okWide Try.prog W .any 0 25 v) (h:DataW.Trod enc Try.prog W 0 (fun _=>true) true 25 v d p):
  ∃va ea vn vc en ec q,v= .agg #[.slice va vn vc, .slice ea en ec]∧PlIn W va ea vn en ec q:=by
 obtain⟨v0,v1,y0,y1,n,rfl,h0,h1⟩:=open_agg2' Try.underlying25 (by kernel_rfl) (by kernel_rfl) hv h
 obtain⟨va,vn,vc,vs,e0,hvn,hvc,fv,hvs⟩:=open_rows7 (C:=fun v:Vx=>[.int .i64 v.id, .int .i64 v.at_.x, .int .i64 v.at_.y]) Try.underlying22 sz_vertex7 (fun _=>rfl) (by decide) dec_vertex7 h0
 obtain⟨ea,en,ec,es,e1,hen,hec,fe,hes⟩:=open_rows7 (C:=fun v:Ed=>[.int .i64 v.id, .int .i64 v.a, .int .i64 v.b]) Try.underlying23 sz_edge7 (fun _=>rfl) (by decide) dec_edge7 h1
 simp at e0 e1
 subst e0 e1
 refine⟨va,ea,vn,vc,en,ec,⟨vs,es⟩,rfl,⟨hvn, ?_⟩,⟨hen, ?_⟩,hec,fv,fe⟩
 ·rcases hvs with h0|⟨b,off,rfl,hb,hc⟩
  ·exact .inl h0
  ·exact .inr ⟨b,off,rfl,hb,fun i v hv=>⟨hc i v hv 0 _ rfl,hc i v hv 1 _ rfl,hc i v hv 2 _ rfl⟩⟩
 ·rcases hes with h0|⟨b,off,rfl,hb,hc⟩
  ·exact .inl h0
  ·exact .inr ⟨b,off,rfl,hb,fun i v hv=>⟨hc i v hv 0 _ rfl,hc i v hv 1 _ rfl,hc i v hv 2 _ rfl⟩⟩
end
end Go.Proofs.Ythopjhifepijiaa
