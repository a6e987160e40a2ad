/- Lemmas on the way to the statement. -/
import Derived.Test.YthopjhifepijiaaJ10
import Derived.Test.YthopjhifepijiaaJ11
import Derived.KernelRfl
set_option linter.unusedSimpArgs false
set_option linter.unusedVariables false
namespace Go.Proofs.Ythopjhifepijiaa
open Go.RowKit Go.Joins
set_option maxRecDepth 100000 in
set_option maxHeartbeats 2000000 in
theorem Realms_any {w:World} {B vn vc en ec:Nat} {va ea:Option Addr} {p:PL} (r:RightP p) (hv:VsIn w B va vn p.vs) (he:EsIn w B ea en p.es) (hB:B≤w.heap.size) (hec:en≤ec) (hfit:FitPL p):
  Calls Try.prog 10 #[.agg #[.slice va vn vc, .slice ea en ec]] w fun e w'=> ∃(g:Int→Int) (a:Option Addr) (n c:Nat),e= .returned (.slice a n c)∧PieceFn p g∧(∀id,IsV p id→g id≠0)∧RlKp w.heap.size w' a n (realmsP p g 0)∧Below w.heap.size w w':=by
 have H:=fun(W:World) (hb:Below w.heap.size w W)=>Lib.hid (realms_any (w:=W) (vc:=vc) r (hv.below (hb.mono hB)) (he.below (hb.mono hB)) (Nat.le_trans hB hb.size) hec hfit)
 clear hv he hfit r
 go_enter Try.func10,Try.ntmps10
 go_wp2_with fail
 refine(H _ (below_alloc (Below.refl _ _))).out.mono ?_
 rintro e w2 ⟨g,a,n,c,ra,rn,rc,rfl,h1,h2,h3, -,hb⟩
 have HB:=Lib.hid (below_step hb (below_alloc (Below.refl _ _)))
 have H1:=Lib.hid h1
 have H2:=Lib.hid h2
 have H3:=Lib.hid (show RlKp w.heap.size w2 a n (realmsP p g 0) from fun F w9 tt hF=>h3 F w9 tt (fun b hb=>by have:=hF b hb;simp;omega))
 clear hb h1 h2 h3
 go_wp2_with fail
 go_ret
 exact⟨g,_,_,_,rfl,H1.out,H2.out,H3.out,HB.out⟩
end Go.Proofs.Ythopjhifepijiaa
namespace Go.Proofs.Ythopjhifepijiaa
open Go.RowKit Go.Joins
theorem rmV_inner18 {p:PL} (g:Int→Int) (no:Int): ∀j i,(rmAt (rmV p g no j) i).inner.length≤(innersP p).length
 |0,i=>rmI_inner_len g _ i
 |j+1,i=>by
  have ih:=rmV_inner18 (p:=p) g no j i
  by_cases h:j<p.vs.length
  ·have hv:=List.getElem?_eq_getElem h
   cases hd:degB p.es (p.vs[j]).id
   ·rw[rmV_no hv hd];exact ih
   ·rw[rmV_yes hv hd]
    have hx:idxA p g no (p.vs[j]).at_<(rmV p g no j).length:=by rw[rmV_len];unfold idxA;exact(idx_lt g _ _).1
    rw[rmAt_addA _ _ _ _ hx]
    split<;>exact ih
  ·have e:rmV p g no (j+1)=rmV p g no j:=by unfold rmV;rw[List.take_of_length_le (by omega),List.take_of_length_le (by omega)]
   rw[e]
   exact ih
theorem ring_len18 {p:PL} (r:RightP p) {L:List Hf} (h:L∈ringsP p):L.length≤2*p.es.length:=by
 obtain⟨h0,m,hr⟩:=r.rings.1 L h
 have:=nodup_len hr.nd (fun x hx=>(hr.mem x hx).1)
 rw[halves_len] at this
 exact this
structure PartOk (p:PL) (x:RM):Prop where
 inner:x.inner.length≤5000
 rings: ∀R∈x.outer::x.inner,R.length≤100000
 alone:x.alone.length≤100000
theorem RightP.lim18 {p:PL} (r:RightP p) (g:Int→Int) (no:Int):(∀x∈realmsP p g no,PartOk p x)∧(realmsP p g no).length≤5000:=by
 have hne:=r.ne
 have hnv:=r.nv
 have hlen: ∀L∈ringsP p,L.length≤100000:=fun L hL=>by have:=ring_len18 r hL;omega
 have hf:=r.rings_few
 have ho:(outersP p).length≤(ringsP p).length:=List.length_filter_le _ _
 have hi:(innersP p).length≤(ringsP p).length:=List.length_filter_le _ _
 refine⟨fun x hx=> ?_,by rw[←rmV_done,rmV_len];omega⟩
 obtain⟨i,hxi⟩:=List.mem_iff_getElem?.1 hx
 have e:rmAt (realmsP p g no) i=x:=by unfold rmAt;rw[List.getD_eq_getElem?_getD,hxi];rfl
 have h1:=rmV_inner18 (p:=p) g no p.vs.length i
 have h2:=rmV_alone_len (p:=p) g no p.vs.length i
 rw[rmV_done,e] at h1 h2
 refine⟨by omega,fun R hR=> ?_,by omega⟩
 rcases List.mem_cons.1 hR with rfl|hR
 ·have h3:x.outer∈[]::outersP p:=by rw[←realms_outer p g no];exact List.mem_map_of_mem hx
  rcases List.mem_cons.1 h3 with h3|h3
  ·rw[h3];simp
  ·exact hlen _ (List.mem_filter.1 h3).1
 ·exact hlen R (List.mem_filter.1 (realms_inner p g no x hx R hR)).1
def AlIn (V:List Vx) (l:List RM):Prop:= ∀r∈l, ∀v∈r.alone, ∃u∈V,u.id=v
theorem addI_al {V:List Vx}: ∀ {l:List RM} {i:Nat} {L:List Hf},AlIn V l→AlIn V (addI l i L)
 | [],i,L,h=>by unfold addI;rw[List.modify_nil];exact h
 |r::l,0,L,h=>fun x hx M hM=>by
  rcases List.mem_cons.1 hx with rfl|hx
  ·exact h r (by simp) M hM
  ·exact h x (by simp[hx]) M hM
 |r::l,i+1,L,h=>fun x hx M hM=>by
  rcases List.mem_cons.1 hx with rfl|hx
  ·exact h x (by simp) M hM
  ·exact addI_al (l:=l) (i:=i) (fun x hx=>h x (by simp[hx])) x hx M hM
theorem addA_al {V:List Vx}: ∀ {l:List RM} {i:Nat} {u:Vx},AlIn V l→u∈V→AlIn V (addA l i u.id)
 | [],i,u,h,_=>by unfold addA;rw[List.modify_nil];exact h
 |r::l,0,u,h,hu=>fun x hx M hM=>by
  rcases List.mem_cons.1 hx with rfl|hx
  ·rcases List.mem_append.1 hM with hM|hM
   ·exact h r (by simp) M hM
   ·simp at hM;subst hM;exact⟨u,hu,rfl⟩
  ·exact h x (by simp[hx]) M hM
 |r::l,i+1,u,h,hu=>fun x hx M hM=>by
  rcases List.mem_cons.1 hx with rfl|hx
  ·exact h x (by simp) M hM
  ·exact addA_al (l:=l) (i:=i) (fun x hx=>h x (by simp[hx])) hu x hx M hM
theorem foldI_al {V:List Vx} {g:List Hf→Nat}: ∀ {S:List (List Hf)} {l:List RM},AlIn V l→AlIn V (S.foldl (fun l L=>addI l (g L) L) l)
 | [],l,h=>h
 |L::S,l,h=>foldI_al (S:=S) (addI_al h)
theorem foldA_al {V:List Vx} {g:Vx→Nat}: ∀ {S:List Vx} {l:List RM},(∀v∈S,v∈V)→AlIn V l→AlIn V (S.foldl (fun l v=>addA l (g v) v.id) l)
 | [],l,_,h=>h
 |v::S,l,hS,h=>foldA_al (S:=S) (fun u hu=>hS u (by simp[hu])) (addA_al h (hS v (by simp)))
theorem realms_alone (p:PL) (g:Int→Int) (no:Int):AlIn p.vs (realmsP p g no):=by
 unfold realmsP
 refine foldA_al (g:=fun v=>(1+aroundP ((orsP p).map (ouOf g)) v.at_ no).toNat) (fun v hv=>(List.mem_filter.1 hv).1) (foldI_al (g:=fun L=>(1+aroundP ((orsP p).map (ouOf g)) (leastPt p L) (g (frA p L))).toNat) ?_)
 intro r hr v hv
 unfold base17 at hr
 rcases List.mem_cons.1 hr with rfl|hr
 ·cases hv
 ·obtain⟨M,hM,rfl⟩:=List.mem_map.1 hr
  cases hv
theorem part_fit {p:PL} (r:RightP p) (f:FitPL p) (g:Int→Int) (no:Int) {x:RM} (hx:x∈realmsP p g no):(∀h∈hOf x,fitI h.edge)∧ ∀v∈x.alone,fitI v:=by
 refine⟨fun h hh=>f.half (((r.realms_all g no).2 h).1 (List.mem_flatMap.2 ⟨x,hx,hh⟩)),fun v hv=> ?_⟩
 obtain⟨u,hu,rfl⟩:=realms_alone p g no x hx v hv
 exact(f.vs u hu).1
theorem MapT.nocell {α β:Type} {w:World} {P:Program} {k:TypeId} {b n:Nat} {ek:α→Value} {ev:β→Value} {g:α→Option β} (h:MapT w P k b n ek ev g) (j:Nat):w.cell? ⟨b,j,none⟩=none:=by
 obtain⟨D,⟨es,clock,hb, -⟩, -⟩:=h
 simp[World.cell?,hb]
section
variable {w w':World} {B:Nat} {F:List Nat}
theorem cell_ne {b j:Nat} {v:Value} (hm: ∀b∈F, ∀j,w.cell? ⟨b,j,none⟩=none) (h:w.cell? ⟨b,j,none⟩=some v):b∉F:=fun e=>by
 rw[hm b e] at h
 cases h
theorem HsIn.beside {a:Option Addr} {n:Nat} {R:List Hf} (h:HsIn w B a n R) (t:Touch F w w') (hm: ∀b∈F, ∀j,w.cell? ⟨b,j,none⟩=none) (hB:B≤w.heap.size):HsIn w' B a n R:=by
 obtain⟨h1,h2|⟨b,off,e,hb,hs⟩⟩:=h
 ·exact⟨h1, .inl h2⟩
 ·exact⟨h1, .inr ⟨b,off,e,hb,fun i x hx=>⟨(t.cell (p:=⟨b,_,none⟩) (Nat.lt_of_lt_of_le hb hB) (cell_ne hm (hs i x hx).1)).trans (hs i x hx).1,(t.cell (p:=⟨b,_,none⟩) (Nat.lt_of_lt_of_le hb hB) (cell_ne hm (hs i x hx).1)).trans (hs i x hx).2⟩⟩⟩
theorem RgIn.beside {a:Option Addr} {n:Nat} {L:List (List Hf)} (h:RgIn w B a n L) (t:Touch F w w') (hm: ∀b∈F, ∀j,w.cell? ⟨b,j,none⟩=none) (hB:B≤w.heap.size):RgIn w' B a n L:=by
 obtain⟨h1,h2|⟨b,off,e,hb,hs⟩⟩:=h
 ·exact⟨h1, .inl h2⟩
 ·exact⟨h1, .inr ⟨b,off,e,hb,fun i R hR=>by
   obtain⟨a',c,h3,h4⟩:=hs i R hR
   exact⟨a',c,(t.cell (p:=⟨b,_,none⟩) (Nat.lt_of_lt_of_le hb hB) (cell_ne hm h3)).trans h3,h4.beside t hm hB⟩⟩⟩
theorem NsIn.beside {a:Option Addr} {n:Nat} {l:List Int} (h:NsIn w B a n l) (t:Touch F w w') (hm: ∀b∈F, ∀j,w.cell? ⟨b,j,none⟩=none) (hB:B≤w.heap.size):NsIn w' B a n l:=by
 obtain⟨h1,h2|⟨b,off,e,hb,hs⟩⟩:=h
 ·exact⟨h1, .inl h2⟩
 ·exact⟨h1, .inr ⟨b,off,e,hb,fun i x hx=>(t.cell (p:=⟨b,_,none⟩) (Nat.lt_of_lt_of_le hb hB) (cell_ne hm (hs i x hx))).trans (hs i x hx)⟩⟩
theorem RmAtC.beside {b o:Nat} {r:RM} {oa ia la:Option Addr} {oc ic lc:Nat} (h:RmAtC w B b o r oa oc ia ic la lc) (t:Touch F w w') (hm: ∀b∈F, ∀j,w.cell? ⟨b,j,none⟩=none) (hB:B≤w.heap.size) (hb:b<B):RmAtC w' B b o r oa oc ia ic la lc:=by
 have hne:=cell_ne hm h.c0
 exact⟨(t.cell (p:=⟨b,_,none⟩) (Nat.lt_of_lt_of_le hb hB) hne).trans h.c0,(t.cell (p:=⟨b,_,none⟩) (Nat.lt_of_lt_of_le hb hB) hne).trans h.c1,(t.cell (p:=⟨b,_,none⟩) (Nat.lt_of_lt_of_le hb hB) hne).trans h.c2,h.outer.beside t hm hB,h.inner.beside t hm hB,h.alone.beside t hm hB⟩
theorem RlIn.beside {a:Option Addr} {n:Nat} {l:List RM} (h:RlIn w B a n l) (t:Touch F w w') (hm: ∀b∈F, ∀j,w.cell? ⟨b,j,none⟩=none) (hB:B≤w.heap.size):RlIn w' B a n l:=by
 obtain⟨h1,h2|⟨b,off,e,hb,hs⟩⟩:=h
 ·exact⟨h1, .inl h2⟩
 ·exact⟨h1, .inr ⟨b,off,e,hb,fun i r hr=>by
   obtain⟨oa,oc,ia,ic,la,lc,h⟩:=hs i r hr
   exact⟨oa,oc,ia,ic,la,lc,h.beside t hm hB hb⟩⟩⟩
end
def erF (e:ER):Nat→Value
 |0=> .int .i64 e.id
 |1=> .int .i64 e.a
 |2=> .int .i64 e.b
 |3=> .int .i64 e.n0
 |4=> .bool e.m0
 |5=> .int .i64 e.n1
 |6=> .bool e.m1
 |7=> .int .i64 e.p0
 |8=> .bool e.q0
 |9=> .int .i64 e.p1
 |10=> .bool e.q1
 |11=> .int .i64 e.f0
 |_=> .int .i64 e.f1
theorem er_cells {w:World} {b:Nat} {t:TypeId} {e:ER} (h:w.rowIs b t 13 (erF e)):w.cell? ⟨b,0,none⟩=some (.int .i64 e.id)∧w.cell? ⟨b,3,none⟩=some (.int .i64 e.n0)∧w.cell? ⟨b,4,none⟩=some (.bool e.m0)∧w.cell? ⟨b,5,none⟩=some (.int .i64 e.n1)∧w.cell? ⟨b,6,none⟩=some (.bool e.m1)∧
  w.cell? ⟨b,7,none⟩=some (.int .i64 e.p0)∧w.cell? ⟨b,8,none⟩=some (.bool e.q0)∧w.cell? ⟨b,9,none⟩=some (.int .i64 e.p1)∧w.cell? ⟨b,10,none⟩=some (.bool e.q1)∧w.cell? ⟨b,11,none⟩=some (.int .i64 e.f0)∧w.cell? ⟨b,12,none⟩=some (.int .i64 e.f1):=
 ⟨World.rowIs.cell h (i:=0) (by decide),World.rowIs.cell h (i:=3) (by decide),World.rowIs.cell h (i:=4) (by decide),World.rowIs.cell h (i:=5) (by decide),World.rowIs.cell h (i:=6) (by decide),World.rowIs.cell h (i:=7) (by decide),World.rowIs.cell h (i:=8) (by decide),World.rowIs.cell h (i:=9) (by decide),World.rowIs.cell h (i:=10) (by decide),World.rowIs.cell h (i:=11) (by decide),World.rowIs.cell h (i:=12) (by decide)⟩
def bo18:Nat→Value
 |0=> .bool false
 |_=> .bool true
end Go.Proofs.Ythopjhifepijiaa
namespace Go.Proofs.Ythopjhifepijiaa
open Go.RowKit Go.Joins
def frC (f:FR):List Value:=[.int .i64 f.id, .int .i64 f.at_]
def facesK (k:Nat):List FR:=(List.range k).map fun(i:Nat)=>(⟨(i:Int),0⟩:FR)
theorem facesK_snoc (k:Nat):facesK (k+1)=facesK k++[⟨(k:Int),0⟩]:=by unfold facesK;rw[List.range_succ,List.map_append];rfl
theorem facesK_len (k:Nat):(facesK k).length=k:=by unfold facesK;simp
def FaceK (p:PL) (g:Hf→Option Int) (k:Nat):Prop:= ∀i x,i<k→(parts18 p)[i]? =some x→ ∀h∈hOf x,g h=some (i:Int)
theorem FaceK.put {p:PL} (r:RightP p) {g:Hf→Option Int} {k:Nat} {x:RM} {h:Hf} (f:FaceK p g k) (hx:(parts18 p)[k]? =some x) (hh:h∈hOf x):FaceK p (updT g h (k:Int)) k:=fun i y hi hy z hz=>by
 unfold updT
 by_cases e:z=h
 ·subst e
  have:=r.part_one (pieceR p) (-1) hx hy hh hz
  omega
 ·rw[if_neg e]
  exact f i y hi hy z hz
theorem FaceK.next {p:PL} {g:Hf→Option Int} {k:Nat} {x:RM} (f:FaceK p g k) (hx:(parts18 p)[k]? =some x) (hh: ∀h∈hOf x,g h=some (k:Int)):FaceK p g (k+1):=fun i y hi hy z hz=>by
 by_cases e:i=k
 ·subst e
  rw[hx] at hy
  cases hy
  exact hh z hz
 ·exact f i y (by omega) hy z hz
theorem put_mem {g:Hf→Option Int} {S:List Hf} {k:Int} {h:Hf} (hs: ∀z∈S,g z=some k): ∀z∈S++[h],updT g h k z=some k:=fun z hz=>by
 unfold updT
 by_cases e:z=h
 ·rw[if_pos e]
 ·rw[if_neg e]
  rcases List.mem_append.1 hz with hz|hz
  ·exact hs z hz
  ·simp at hz;exact absurd hz e
structure DrT (p:PL) (w:World) (lo:Nat) (V E F:Value) (vs:List VR) (es:List ER) (fs:List FR):Prop where
 rv:w.ownsRow lo 141 4 V vs.length (vs.flatMap vrC)
 re:w.ownsRow lo 81 13 E es.length (es.flatMap erC)
 rf:w.ownsRow lo 83 2 F fs.length (fs.flatMap frC)
 pl:pOf vs es=p
 ln: ∀e∈es, ∀b,LinkOk p e b
 fc: ∃g:Hf→Option Int,(∀e∈es, ∀b,rowF e b=(g ⟨e.id,b⟩).getD 0)∧FaceK p g (parts18 p).length
 nf:fs.length=(parts18 p).length
 fit:FitT vs es fs
end Go.Proofs.Ythopjhifepijiaa
namespace Go.Proofs.Ythopjhifepijiaa
open Go.RowKit
theorem ne_pt (a b:Pt) (w:World):(binOp .neq 51 (.agg #[.int .i64 a.x, .int .i64 a.y]) (.agg #[.int .i64 b.x, .int .i64 b.y])).run Try.prog w= .ok (.bool (decide (a≠b))) w:=by
 obtain⟨ax,ay⟩:=a
 obtain⟨bx,by_⟩:=b
 simp[go_sem]
 by_cases h1:ax=bx<;>by_cases h2:ay=by_<;>simp[h1,h2]
theorem ne_pt_t {a b:Pt} (h:decide (a=b)=true) (w:World):(binOp .neq 51 (.agg #[.int .i64 a.x, .int .i64 a.y]) (.agg #[.int .i64 b.x, .int .i64 b.y])).run Try.prog w= .ok (.bool false) w:=by
 rw[ne_pt];simp at h;simp[h]
theorem ne_pt_f {a b:Pt} (h:decide (a=b)=false) (w:World):(binOp .neq 51 (.agg #[.int .i64 a.x, .int .i64 a.y]) (.agg #[.int .i64 b.x, .int .i64 b.y])).run Try.prog w= .ok (.bool true) w:=by
 rw[ne_pt];simp at h;simp[h]
set_option maxRecDepth 100000 in
theorem r5in_any (p:Pt) (w:World):Calls Try.prog 23 #[.agg #[.int .i64 p.x, .int .i64 p.y]] w fun e w'=>e= .returned (.bool (inB p))∧Below w.heap.size w w':=by
 obtain⟨v,hv⟩: ∃v,v=inB p:=⟨_,rfl⟩
 rw[←hv]
 have hc:(v=true∧p.x≤268435456∧p.y≤268435456∧ -268435456≤p.x∧ -268435456≤p.y)∨(v=false∧ ¬p.x≤268435456)∨(v=false∧p.x≤268435456∧ ¬p.y≤268435456)∨(v=false∧p.x≤268435456∧p.y≤268435456∧ ¬ -268435456≤p.x)∨
   (v=false∧p.x≤268435456∧p.y≤268435456∧ -268435456≤p.x∧ ¬ -268435456≤p.y):=by
  cases v
  ·have:=hv.symm
   rw[Bool.eq_false_iff,ne_eq,inB_iff] at this
   simp only[true_and,Bool.false_eq_true,false_and,false_or]
   omega
  ·have:=inB_iff.1 hv.symm
   exact .inl ⟨rfl,this.2.1,this.2.2.2,this.1,this.2.2.1⟩
 clear hv
 rcases hc with ⟨rfl,h1,h2,h3,h4⟩|⟨rfl,h1⟩|⟨rfl,h1,h2⟩|⟨rfl,h1,h2,h3⟩|⟨rfl,h1,h2,h3,h4⟩
 all_goals
  go_enter Try.func23,Try.ntmps23
  go_wp2_with fail
  go_ret
  exact⟨rfl,below_alloc (Below.refl _ _)⟩
theorem prod_bd {x y:Int} (h1: -268435456≤x) (h2:x≤268435456) (h3: -268435456≤y) (h4:y≤268435456): -72057594037927936≤x*y∧x*y≤72057594037927936:=by
 have:=mul_bd h1 h2 h3 h4
 omega
set_option maxRecDepth 100000 in
set_option maxHeartbeats 1000000 in
theorem r5area_any (a b c:Pt) (w:World) (ha:inB a=true) (hb:inB b=true) (hc:inB c=true):
  Calls Try.prog 84 #[.agg #[.int .i64 a.x, .int .i64 a.y], .agg #[.int .i64 b.x, .int .i64 b.y], .agg #[.int .i64 c.x, .int .i64 c.y]] w fun e w'=>e= .returned (.int .i64 (crs a b c))∧Below w.heap.size w w':=by
 rw[←areaR_eq]
 have hd:=inB_iff.1 ha
 have he:=inB_iff.1 hb
 have hf:=inB_iff.1 hc
 have b1:=prod_bd hd.1 hd.2.1 he.2.2.1 he.2.2.2
 have b2:=prod_bd hd.2.2.1 hd.2.2.2 he.1 he.2.1
 have b3:=prod_bd he.1 he.2.1 hf.2.2.1 hf.2.2.2
 have b4:=prod_bd he.2.2.1 he.2.2.2 hf.1 hf.2.1
 have b5:=prod_bd hf.1 hf.2.1 hd.2.2.1 hd.2.2.2
 have b6:=prod_bd hf.2.2.1 hf.2.2.2 hd.1 hd.2.1
 unfold areaR
 clear ha hb hc hd he hf
 generalize h1:a.x*b.y=X1 at*
 generalize h2:a.y*b.x=X2 at*
 generalize h3:b.x*c.y=X3 at*
 generalize h4:b.y*c.x=X4 at*
 generalize h5:c.x*a.y=X5 at*
 generalize h6:c.y*a.x=X6 at*
 have w1:wrap64 (a.x*b.y)=X1:=by rw[h1];exact IntWalk.wrap64_in _ ⟨by omega,by omega⟩
 have w2:wrap64 (a.y*b.x)=X2:=by rw[h2];exact IntWalk.wrap64_in _ ⟨by omega,by omega⟩
 have w3:wrap64 (b.x*c.y)=X3:=by rw[h3];exact IntWalk.wrap64_in _ ⟨by omega,by omega⟩
 have w4:wrap64 (b.y*c.x)=X4:=by rw[h4];exact IntWalk.wrap64_in _ ⟨by omega,by omega⟩
 have w5:wrap64 (c.x*a.y)=X5:=by rw[h5];exact IntWalk.wrap64_in _ ⟨by omega,by omega⟩
 have w6:wrap64 (c.y*a.x)=X6:=by rw[h6];exact IntWalk.wrap64_in _ ⟨by omega,by omega⟩
 clear h1 h2 h3 h4 h5 h6
 obtain⟨b1a,b1b⟩:=b1
 obtain⟨b2a,b2b⟩:=b2
 obtain⟨b3a,b3b⟩:=b3
 obtain⟨b4a,b4b⟩:=b4
 obtain⟨b5a,b5b⟩:=b5
 obtain⟨b6a,b6b⟩:=b6
 go_enter Try.func84,Try.ntmps84
 go_wp2_with fail
 go_ret
 refine⟨by go_num,below_alloc (below_alloc (below_alloc (Below.refl _ _)))⟩
set_option maxRecDepth 100000 in
set_option maxHeartbeats 1000000 in
theorem r5turn_any (a b c:Pt) (w:World) (ha:inB a=true) (hb:inB b=true) (hc:inB c=true):
  Calls Try.prog 52 #[.agg #[.int .i64 a.x, .int .i64 a.y], .agg #[.int .i64 b.x, .int .i64 b.y], .agg #[.int .i64 c.x, .int .i64 c.y]] w fun e w'=>e= .returned (.int .i64 (trn a b c))∧Below w.heap.size w w':=by
 have H:=fun w=>Lib.hid (r5area_any a b c w ha hb hc)
 unfold trn
 generalize crs a b c=n at*
 clear ha hb hc
 rcases sign_cases n with ⟨h,e⟩|⟨h,e⟩|⟨h,e⟩
 all_goals
  rw[e]
  clear e
  try subst h
  go_enter Try.func52,Try.ntmps52
  go_wp2_with fail
  refine(H _).out.mono ?_
  rintro e w' ⟨rfl,hb⟩
  have HB:=Lib.hid (below_step hb (below_alloc (below_alloc (below_alloc (Below.refl w.heap.size w)))))
  clear hb
  go_wp2_with fail
  go_ret
  exact⟨rfl,HB.out⟩
end Go.Proofs.Ythopjhifepijiaa
namespace Go.Proofs.Ythopjhifepijiaa
open Go.RowKit
theorem rng_cases (p a b:Int):(decide (a≤p∧p≤b∨b≤p∧p≤a)=true∧a≤p∧p≤b)∨(decide (a≤p∧p≤b∨b≤p∧p≤a)=true∧a≤p∧ ¬p≤b∧b≤p∧p≤a)∨(decide (a≤p∧p≤b∨b≤p∧p≤a)=false∧a≤p∧ ¬p≤b∧b≤p∧ ¬p≤a)∨
  (decide (a≤p∧p≤b∨b≤p∧p≤a)=true∧ ¬a≤p∧b≤p∧p≤a)∨(decide (a≤p∧p≤b∨b≤p∧p≤a)=false∧ ¬a≤p∧ ¬b≤p):=by
 simp only[decide_eq_true_eq,decide_eq_false_iff_not]
 omega
set_option maxRecDepth 100000 in
set_option maxHeartbeats 4000000 in
theorem r5within_any (p a b:Pt) (w:World) (hp:inB p=true) (ha:inB a=true) (hb:inB b=true):
  Calls Try.prog 24 #[.agg #[.int .i64 p.x, .int .i64 p.y], .agg #[.int .i64 a.x, .int .i64 a.y], .agg #[.int .i64 b.x, .int .i64 b.y]] w fun e w'=>e= .returned (.bool (wthR p a b))∧Below w.heap.size w w':=by
 have H:=fun w=>Lib.hid (r5turn_any a b p w ha hb hp)
 unfold wthR
 generalize trn a b p=n at*
 clear ha hb hp
 by_cases hn:n=0
 ·subst hn
  rw[show decide ((0:Int)=0)=true from rfl,Bool.true_and]
  have hcx:=rng_cases p.x a.x b.x
  have hcy:=rng_cases p.y a.y b.y
  generalize decide (a.x≤p.x∧p.x≤b.x∨b.x≤p.x∧p.x≤a.x)=X at*
  generalize decide (a.y≤p.y∧p.y≤b.y∨b.y≤p.y∧p.y≤a.y)=Y at*
  have HCY:=Lib.hid hcy
  have HCX:=Lib.hid hcx
  clear hcx hcy
  go_enter Try.func24,Try.ntmps24
  go_wp2_with fail
  first|refine wp_name (fun W hW=> ?_)|refine calls_name (fun W hW=> ?_)
  have HW:Hid (Below w.heap.size w W):=Lib.hid (by rw[←hW];repeat (first|exact Below.refl _ _|refine below_alloc ?_))
  have HWs:Hid (W.heap.size=w.heap.size+1+1+1):=Lib.hid (by rw[←hW];simp)
  have HBW:Hid (W.heap.size≤W.heap.size):=Lib.hid (by have:=HWs.out;omega)
  have HC:=fun(W1:World) (hb:Below (W.heap.size) W W1)=>Lib.hid (show W1.cell? ⟨w.heap.size,0,none⟩=some (.int .i64 p.x)∧W1.cell? ⟨w.heap.size,1,none⟩=some (.int .i64 p.y)∧W1.cell? ⟨w.heap.size+1,0,none⟩=some (.int .i64 a.x)∧W1.cell? ⟨w.heap.size+1,1,none⟩=some (.int .i64 a.y)∧W1.cell? ⟨w.heap.size+1+1,0,none⟩=some (.int .i64 b.x)∧W1.cell? ⟨w.heap.size+1+1,1,none⟩=some (.int .i64 b.y) from by have hs:=HWs.out;refine⟨?_, ?_, ?_, ?_, ?_, ?_⟩<;>(refine(hb.cell (by dsimp only;omega)).trans ?_;rw[←hW];clear hW;go_simp))
  have HB:=Lib.hid (Below.refl (W.heap.size) W)
  clear hW
  have HZ:=fun(W1:World) (hb:W.heap.size≤W1.heap.size)=>Lib.hid (show w.heap.size<W1.heap.size∧w.heap.size+1<W1.heap.size∧w.heap.size+1+1<W1.heap.size from by have:=HWs.out;refine⟨?_, ?_, ?_⟩<;>omega)
  obtain⟨qx0,qx1,qx2,qx3,qx4,qx5⟩:=(HC _ HB.out).out
  obtain⟨rx0,rx1,rx2⟩:=(HZ _ HB.out.size).out
  refine((H _).out).mono ?_
  rintro e w2 ⟨rfl,hb2⟩
  have HB:=bnx HB HBW hb2
  clear qx0 qx1 qx2 qx3 qx4 qx5 rx0 rx1 rx2
  obtain⟨qx0,qx1,qx2,qx3,qx4,qx5⟩:=(HC _ HB.out).out
  clear hb2
  obtain⟨rx0,rx1,rx2⟩:=(HZ _ HB.out.size).out
  go_upto_region 3 with fail
  go_cut [7] (fun p7 wx=>p7= .bool X∧wx=w2)
  case first=>
   rcases HCX.out with ⟨rfl,h1,h2⟩|⟨rfl,h1,h2,h3,h4⟩|⟨rfl,h1,h2,h3,h4⟩|⟨rfl,h1,h2,h3⟩|⟨rfl,h1,h2⟩
   all_goals
    go_wp2_with fail
    go_meet
    exact⟨by first|rfl|(simp;omega),rfl⟩
  case rest=>
  obtain⟨rfl,rfl⟩:=hcut
  go_upto_region 4 with fail
  go_cut [8] (fun p8 wx=>p8= .bool Y∧wx=wc)
  case first=>
   rcases HCY.out with ⟨rfl,h1,h2⟩|⟨rfl,h1,h2,h3,h4⟩|⟨rfl,h1,h2,h3,h4⟩|⟨rfl,h1,h2,h3⟩|⟨rfl,h1,h2⟩
   all_goals
    go_wp2_with fail
    go_meet
    exact⟨by first|rfl|(simp;omega),rfl⟩
  case rest=>
  obtain⟨rfl,rfl⟩:=hcut
  cases X
  all_goals
   go_wp2_with fail
   go_ret
   exact⟨by simp,bfn HW HB⟩
 ·have hz:(n==0)=false:=by simpa using hn
  rw[show decide (n=0)=false by simpa using hn]
  go_enter Try.func24,Try.ntmps24
  go_wp2_with fail
  first|refine wp_name (fun W hW=> ?_)|refine calls_name (fun W hW=> ?_)
  have HW:Hid (Below w.heap.size w W):=Lib.hid (by rw[←hW];repeat (first|exact Below.refl _ _|refine below_alloc ?_))
  have HWs:Hid (W.heap.size=w.heap.size+1+1+1):=Lib.hid (by rw[←hW];simp)
  have HBW:Hid (W.heap.size≤W.heap.size):=Lib.hid (by have:=HWs.out;omega)
  have HC:=fun(W1:World) (hb:Below (W.heap.size) W W1)=>Lib.hid (show W1.cell? ⟨w.heap.size,0,none⟩=some (.int .i64 p.x)∧W1.cell? ⟨w.heap.size,1,none⟩=some (.int .i64 p.y)∧W1.cell? ⟨w.heap.size+1,0,none⟩=some (.int .i64 a.x)∧W1.cell? ⟨w.heap.size+1,1,none⟩=some (.int .i64 a.y)∧W1.cell? ⟨w.heap.size+1+1,0,none⟩=some (.int .i64 b.x)∧W1.cell? ⟨w.heap.size+1+1,1,none⟩=some (.int .i64 b.y) from by have hs:=HWs.out;refine⟨?_, ?_, ?_, ?_, ?_, ?_⟩<;>(refine(hb.cell (by dsimp only;omega)).trans ?_;rw[←hW];clear hW;go_simp))
  have HB:=Lib.hid (Below.refl (W.heap.size) W)
  clear hW
  have HZ:=fun(W1:World) (hb:W.heap.size≤W1.heap.size)=>Lib.hid (show w.heap.size<W1.heap.size∧w.heap.size+1<W1.heap.size∧w.heap.size+1+1<W1.heap.size from by have:=HWs.out;refine⟨?_, ?_, ?_⟩<;>omega)
  obtain⟨qx0,qx1,qx2,qx3,qx4,qx5⟩:=(HC _ HB.out).out
  obtain⟨rx0,rx1,rx2⟩:=(HZ _ HB.out.size).out
  refine((H _).out).mono ?_
  rintro e w5 ⟨rfl,hb5⟩
  have HB:=bnx HB HBW hb5
  clear qx0 qx1 qx2 qx3 qx4 qx5 rx0 rx1 rx2
  obtain⟨qx0,qx1,qx2,qx3,qx4,qx5⟩:=(HC _ HB.out).out
  clear hb5
  obtain⟨rx0,rx1,rx2⟩:=(HZ _ HB.out.size).out
  go_wp2_with fail
  go_ret
  exact⟨by simp,bfn HW HB⟩
set_option maxRecDepth 100000 in
set_option maxHeartbeats 4000000 in
theorem r5on_any (p a b:Pt) (w:World) (hp:inB p=true) (ha:inB a=true) (hb:inB b=true):
  Calls Try.prog 57 #[.agg #[.int .i64 p.x, .int .i64 p.y], .agg #[.int .i64 a.x, .int .i64 a.y], .agg #[.int .i64 b.x, .int .i64 b.y]] w fun e w'=>e= .returned (.bool (onB p a b))∧Below w.heap.size w w':=by
 rw[←onR_eq hp ha hb]
 have H:=fun w=>Lib.hid (r5within_any p a b w hp ha hb)
 unfold onR
 generalize wthR p a b=X at*
 clear ha hb hp
 cases X
 case' true=>
  cases h1:decide (p=a)
  case' true=>have r1:=ne_pt_t h1
  case' false=>
   have r1:=ne_pt_f h1
   cases h2:decide (p=b)
   case' false=>have r2:=ne_pt_f h2
   case' true=>have r2:=ne_pt_t h2
 all_goals
  go_enter Try.func57,Try.ntmps57
  go_wp2_with fail
  first|refine wp_name (fun W hW=> ?_)|refine calls_name (fun W hW=> ?_)
  have HW:Hid (Below w.heap.size w W):=Lib.hid (by rw[←hW];repeat (first|exact Below.refl _ _|refine below_alloc ?_))
  have HWs:Hid (W.heap.size=w.heap.size+1+1+1):=Lib.hid (by rw[←hW];simp)
  have HBW:Hid (W.heap.size≤W.heap.size):=Lib.hid (by have:=HWs.out;omega)
  have HC:=fun(W1:World) (hb:Below (W.heap.size) W W1)=>Lib.hid (show W1.cell? ⟨w.heap.size,0,none⟩=some (.int .i64 p.x)∧W1.cell? ⟨w.heap.size,1,none⟩=some (.int .i64 p.y)∧W1.cell? ⟨w.heap.size+1,0,none⟩=some (.int .i64 a.x)∧W1.cell? ⟨w.heap.size+1,1,none⟩=some (.int .i64 a.y)∧W1.cell? ⟨w.heap.size+1+1,0,none⟩=some (.int .i64 b.x)∧W1.cell? ⟨w.heap.size+1+1,1,none⟩=some (.int .i64 b.y) from by have hs:=HWs.out;refine⟨?_, ?_, ?_, ?_, ?_, ?_⟩<;>(refine(hb.cell (by dsimp only;omega)).trans ?_;rw[←hW];clear hW;go_simp))
  have HB:=Lib.hid (Below.refl (W.heap.size) W)
  clear hW
  have HZ:=fun(W1:World) (hb:W.heap.size≤W1.heap.size)=>Lib.hid (show w.heap.size<W1.heap.size∧w.heap.size+1<W1.heap.size∧w.heap.size+1+1<W1.heap.size from by have:=HWs.out;refine⟨?_, ?_, ?_⟩<;>omega)
  obtain⟨qx0,qx1,qx2,qx3,qx4,qx5⟩:=(HC _ HB.out).out
  obtain⟨rx0,rx1,rx2⟩:=(HZ _ HB.out.size).out
  refine((H _).out).mono ?_
  rintro e w8 ⟨rfl,hb8⟩
  have HB:=bnx HB HBW hb8
  clear qx0 qx1 qx2 qx3 qx4 qx5 rx0 rx1 rx2
  obtain⟨qx0,qx1,qx2,qx3,qx4,qx5⟩:=(HC _ HB.out).out
  clear hb8
  obtain⟨rx0,rx1,rx2⟩:=(HZ _ HB.out.size).out
  go_wp2_with fail
  go_ret
  exact⟨by first|(simp;done)|(simp at h1;simp[h1];done)|(simp at h2;simp[h2];done)|(simp at h1 h2;simp[h1,h2]),bfn HW HB⟩
end Go.Proofs.Ythopjhifepijiaa
namespace Go.Proofs.Ythopjhifepijiaa
open Go.RowKit
theorem ends_cases (a b c d:Pt):(decide (a=c)=true∧Hid ((a=c∨a=d∨b=c∨b=d)=True))∨(decide (a=c)=false∧decide (a=d)=true∧Hid ((a=c∨a=d∨b=c∨b=d)=True))∨(decide (a=c)=false∧decide (a=d)=false∧decide (b=c)=true∧Hid ((a=c∨a=d∨b=c∨b=d)=True))∨
  (decide (a=c)=false∧decide (a=d)=false∧decide (b=c)=false∧decide (b=d)=true∧Hid ((a=c∨a=d∨b=c∨b=d)=True))∨(decide (a=c)=false∧decide (a=d)=false∧decide (b=c)=false∧decide (b=d)=false∧Hid ((a=c∨a=d∨b=c∨b=d)=False)):=by
 by_cases h1:a=c
 ·exact .inl ⟨decide_eq_true h1,Lib.hid (by simp[h1])⟩
 ·by_cases h2:a=d
  ·exact .inr (.inl ⟨decide_eq_false h1,decide_eq_true h2,Lib.hid (by simp[h2])⟩)
  ·by_cases h3:b=c
   ·exact .inr (.inr (.inl ⟨decide_eq_false h1,decide_eq_false h2,decide_eq_true h3,Lib.hid (by simp[h3])⟩))
   ·by_cases h4:b=d
    ·exact .inr (.inr (.inr (.inl ⟨decide_eq_false h1,decide_eq_false h2,decide_eq_false h3,decide_eq_true h4,Lib.hid (by simp[h4])⟩)))
    ·exact .inr (.inr (.inr (.inr ⟨decide_eq_false h1,decide_eq_false h2,decide_eq_false h3,decide_eq_false h4,Lib.hid (by simp[h1,h2,h3,h4])⟩)))
theorem z_cases {t u:Int} (h: ¬(t=0∧u=0)):(0=t∧(u==0)=false∧((0:Int)==u)=false∧decide ((0:Int)=u)=false)∨(t==0)=false:=by
 by_cases h1:t=0
 ·exact .inl ⟨h1.symm,by simpa using fun h2=>h ⟨h1,h2⟩,by simpa using fun h2=>h ⟨h1,h2.symm⟩,by simpa using fun h2=>h ⟨h1,h2.symm⟩⟩
 ·exact .inr (by simpa using h1)
theorem d_cases (t u:Int):(decide (t=u)=true∧t=u)∨(decide (t=u)=false∧(t==u)=false):=by
 by_cases h:t=u
 ·exact .inl ⟨decide_eq_true h,h⟩
 ·exact .inr ⟨decide_eq_false h,by simpa using h⟩
set_option maxRecDepth 100000 in
set_option maxHeartbeats 8000000 in
theorem r5meet_any (a b c d:Pt) (w:World) (ha:inB a=true) (hb:inB b=true) (hc:inB c=true) (hd:inB d=true) (hab:a≠b) (hcd:c≠d):Calls Try.prog 25 #[.agg #[.int .i64 a.x, .int .i64 a.y], .agg #[.int .i64 b.x, .int .i64 b.y], .agg #[.int .i64 c.x, .int .i64 c.y], .agg #[.int .i64 d.x, .int .i64 d.y]] w fun e w'=>e= .returned (.bool (meetB a b c d))∧Below w.heap.size w w':=by
 rw[←meetR_eq ha hb hc hd hab hcd]
 have O1:=fun w=>Lib.hid (r5on_any a c d w ha hc hd)
 have O2:=fun w=>Lib.hid (r5on_any b c d w hb hc hd)
 have O3:=fun w=>Lib.hid (r5on_any c a b w hc ha hb)
 have O4:=fun w=>Lib.hid (r5on_any d a b w hd ha hb)
 have O5:=fun w=>Lib.hid (r5within_any a c d w ha hc hd)
 have O6:=fun w=>Lib.hid (r5within_any b c d w hb hc hd)
 have T1:=fun w=>Lib.hid (r5turn_any a b c w ha hb hc)
 have T2:=fun w=>Lib.hid (r5turn_any a b d w ha hb hd)
 have T3:=fun w=>Lib.hid (r5turn_any c d a w hc hd ha)
 have T4:=fun w=>Lib.hid (r5turn_any c d b w hc hd hb)
 unfold meetR
 rw[onR_eq ha hc hd,onR_eq hb hc hd,onR_eq hc ha hb,onR_eq hd ha hb]
 clear ha hb hc hd hab hcd
 generalize onB a c d=o1 at*
 generalize onB b c d=o2 at*
 generalize onB c a b=o3 at*
 generalize onB d a b=o4 at*
 generalize wthR a c d=o5 at*
 generalize wthR b c d=o6 at*
 generalize trn a b c=t1 at*
 generalize trn a b d=t2 at*
 generalize trn c d a=t3 at*
 generalize trn c d b=t4 at*
 by_cases h12:t1=0∧t2=0
 case' pos=>
  rw[if_pos h12]
  obtain⟨rfl,rfl⟩:=h12
  clear T3 T4
  cases o1
  case' false=>
   cases o2
   case' false=>
    cases o3
    case' false=>
     cases o4
     case' false=>cases o5
 case' neg=>
  rw[if_neg h12]
  clear O1 O2 O3 O4 O5 O6
  rcases ends_cases a b c d with ⟨e1,HE⟩|⟨e1,e2,HE⟩|⟨e1,e2,e3,HE⟩|⟨e1,e2,e3,e4,HE⟩|⟨e1,e2,e3,e4,HE⟩
  all_goals
   first|have r1:=eq_pt_t e1|have r1:=eq_pt_f e1
   try first|have r2:=eq_pt_t e2|have r2:=eq_pt_f e2
   try first|have r3:=eq_pt_t e3|have r3:=eq_pt_f e3
   try first|have r4:=eq_pt_t e4|have r4:=eq_pt_f e4
   simp only[HE.out,if_true,if_false]
   clear e1
   try clear e2
   try clear e3
   try clear e4
   rcases z_cases h12 with ⟨rfl,hz,hy,hx⟩|hz
  all_goals
   clear h12
   try rw[hx,Bool.false_or]
   try clear hx
   try
    rcases d_cases t3 t4 with ⟨hx,rfl⟩|⟨hx,hw⟩
    all_goals
     rw[hx]
     clear hx
  all_goals
   try
    rcases d_cases t1 t2 with ⟨hx,rfl⟩|⟨hx,hv⟩
    all_goals
     rw[hx]
     clear hx
 all_goals
  go_enter Try.func25,Try.ntmps25
  go_wp2_with fail
  first|refine wp_name (fun W hW=> ?_)|refine calls_name (fun W hW=> ?_)
  have HW:Hid (Below w.heap.size w W):=Lib.hid (by rw[←hW];repeat (first|exact Below.refl _ _|refine below_alloc ?_))
  have HWs:Hid (W.heap.size=w.heap.size+1+1+1+1):=Lib.hid (by rw[←hW];simp)
  have HBW:Hid (W.heap.size≤W.heap.size):=Lib.hid (by have:=HWs.out;omega)
  have HC:=fun(W1:World) (hb:Below (W.heap.size) W W1)=>Lib.hid (show W1.cell? ⟨w.heap.size,0,none⟩=some (.int .i64 a.x)∧W1.cell? ⟨w.heap.size,1,none⟩=some (.int .i64 a.y)∧W1.cell? ⟨w.heap.size+1,0,none⟩=some (.int .i64 b.x)∧W1.cell? ⟨w.heap.size+1,1,none⟩=some (.int .i64 b.y)∧W1.cell? ⟨w.heap.size+1+1,0,none⟩=some (.int .i64 c.x)∧W1.cell? ⟨w.heap.size+1+1,1,none⟩=some (.int .i64 c.y)∧W1.cell? ⟨w.heap.size+1+1+1,0,none⟩=some (.int .i64 d.x)∧W1.cell? ⟨w.heap.size+1+1+1,1,none⟩=some (.int .i64 d.y) from by have hs:=HWs.out;refine⟨?_, ?_, ?_, ?_, ?_, ?_, ?_, ?_⟩<;>(refine(hb.cell (by dsimp only;omega)).trans ?_;rw[←hW];clear hW;go_simp))
  have HB:=Lib.hid (Below.refl (W.heap.size) W)
  clear hW
  have HZ:=fun(W1:World) (hb:W.heap.size≤W1.heap.size)=>Lib.hid (show w.heap.size<W1.heap.size∧w.heap.size+1<W1.heap.size∧w.heap.size+1+1<W1.heap.size∧w.heap.size+1+1+1<W1.heap.size from by have:=HWs.out;refine⟨?_, ?_, ?_, ?_⟩<;>omega)
  obtain⟨qx0,qx1,qx2,qx3,qx4,qx5,qx6,qx7⟩:=(HC _ HB.out).out
  obtain⟨rx0,rx1,rx2,rx3⟩:=(HZ _ HB.out.size).out
  refine((T1 _).out).mono ?_
  rintro e w2 ⟨rfl,hb2⟩
  have HB:=bnx HB HBW hb2
  clear qx0 qx1 qx2 qx3 qx4 qx5 qx6 qx7 rx0 rx1 rx2 rx3
  obtain⟨qx0,qx1,qx2,qx3,qx4,qx5,qx6,qx7⟩:=(HC _ HB.out).out
  clear hb2
  obtain⟨rx0,rx1,rx2,rx3⟩:=(HZ _ HB.out.size).out
  go_wp2_with fail
  repeat
   first|with_reducible refine((T2 _).out).mono ?_|with_reducible refine((O1 _).out).mono ?_|with_reducible refine((O2 _).out).mono ?_|with_reducible refine((O3 _).out).mono ?_|with_reducible refine((O4 _).out).mono ?_|with_reducible refine((O5 _).out).mono ?_|with_reducible refine((O6 _).out).mono ?_
   rintro e w3 ⟨rfl,hb3⟩
   have HB:=bnx HB HBW hb3
   clear qx0 qx1 qx2 qx3 qx4 qx5 qx6 qx7 rx0 rx1 rx2 rx3
   obtain⟨qx0,qx1,qx2,qx3,qx4,qx5,qx6,qx7⟩:=(HC _ HB.out).out
   clear hb3
   obtain⟨rx0,rx1,rx2,rx3⟩:=(HZ _ HB.out.size).out
   go_wp2_with fail
  try
   refine wp_name (fun c4 hc4=> ?_)
   have HB:=bnm HB HBW hc4
   clear hc4
   have xx:=fun(x:Later c4)=>(HC _ (bnl HB HBW x.2)).out
   simp only[forall_and] at xx
   obtain⟨xx0,xx1,xx2,xx3,xx4,xx5,xx6,xx7⟩:=xx
   refine wp_region_later (by kernel_rfl) (by kernel_rfl) ?_
   repeat (first|go_big_quiet_step (((first|(go_at_call 52;with_reducible refine Later.call (T1 _).out)|(go_at_call 52;with_reducible refine Later.call (T2 _).out)|(go_at_call 52;with_reducible refine Later.call (T3 _).out)|(go_at_call 52;with_reducible refine Later.call (T4 _).out))))|quiet_step (((first|(go_at_call 52;with_reducible refine Later.call (T1 _).out)|(go_at_call 52;with_reducible refine Later.call (T2 _).out)|(go_at_call 52;with_reducible refine Later.call (T3 _).out)|(go_at_call 52;with_reducible refine Later.call (T4 _).out)))))
   refine wpQuiet_nil ?_
   intro w4 hw4
   have hb4:=later_below hw4
   clear hw4
   have HB:=Lib.hid (bnl HB HBW hb4)
   clear xx0 xx1 xx2 xx3 xx4 xx5 xx6 xx7
   clear qx0 qx1 qx2 qx3 qx4 qx5 qx6 qx7 rx0 rx1 rx2 rx3
   obtain⟨qx0,qx1,qx2,qx3,qx4,qx5,qx6,qx7⟩:=(HC _ HB.out).out
   clear hb4
   obtain⟨rx0,rx1,rx2,rx3⟩:=(HZ _ HB.out.size).out
   go_wp2_with fail
  go_ret
  exact⟨rfl,bfn HW HB⟩
end Go.Proofs.Ythopjhifepijiaa
namespace Go.Proofs.Ythopjhifepijiaa
def vOkR (vs:List Vx) (i:Nat) (v:Vx):Bool:=decide (pid vs i<v.id)&&inB v.at_&&(vs.take i).all fun u=>decide (u.at_≠v.at_)
def eOkR (vs:List Vx) (es:List Ed) (i:Nat) (e:Ed):Bool:=decide (eid es i<e.id)&&decide (e.a≠e.b)&&(ptOf vs e.a).isSome&&(ptOf vs e.b).isSome&&(es.take i).all (fun f=>decide (ends f≠ends e))&&vs.all (fun v=> !onB v.at_ (ptZ vs e.a) (ptZ vs e.b))&&(es.take i).all (fun f=> !meetB (ptZ vs e.a) (ptZ vs e.b) (ptZ vs f.a) (ptZ vs f.b))
def rightR (p:PL):Bool:=decide (p.vs.length≤512)&&decide (p.es.length≤1024)&&(List.range p.vs.length).all (fun i=>((p.vs[i]?).map (vOkR p.vs i)).getD true)&&(List.range p.es.length).all (fun i=>((p.es[i]?).map (eOkR p.vs p.es i)).getD true)
theorem take_iff {α:Type} {P:α→Prop} {l:List α} {i:Nat}:(∀x∈l.take i,P x)↔ ∀j x,j<i→l[j]? =some x→P x:=by
 constructor
 ·intro h j x hj hx
  exact h x (List.mem_of_getElem? (i:=j) (by rw[List.getElem?_take,if_pos hj];exact hx))
 ·intro h x hx
  obtain⟨j,hj⟩:=List.mem_iff_getElem?.1 hx
  rw[List.getElem?_take] at hj
  split at hj
  ·exact h j x ‹_› hj
  ·cases hj
theorem all_take {α:Type} {f:α→Bool} {l:List α} {i:Nat}:(l.take i).all f=true↔ ∀j x,j<i→l[j]? =some x→f x=true:=by
 rw[List.all_eq_true]
 constructor
 ·intro h j x hj hx
  exact h x (List.mem_of_getElem? (i:=j) (by rw[List.getElem?_take,if_pos hj];exact hx))
 ·intro h x hx
  obtain⟨j,hj⟩:=List.mem_iff_getElem?.1 hx
  rw[List.getElem?_take] at hj
  split at hj
  ·exact h j x ‹_› hj
  ·cases hj
theorem all_range {α:Type} {f:Nat→α→Bool} {l:List α}:(List.range l.length).all (fun i=>((l[i]?).map (f i)).getD true)=true↔ ∀i x,l[i]? =some x→f i x=true:=by
 rw[List.all_eq_true]
 constructor
 ·intro h i x hx
  have:=h i (List.mem_range.2 (List.getElem?_eq_some_iff.1 hx).1)
  rw[hx] at this
  exact this
 ·intro h i hi
  have hx:=List.getElem?_eq_getElem (List.mem_range.1 hi)
  rw[hx]
  exact h i _ hx
theorem vOkR_iff {vs:List Vx} {i:Nat} {v:Vx}:vOkR vs i v=true↔VOk vs i v:=by
 unfold vOkR
 rw[Bool.and_eq_true,Bool.and_eq_true,decide_eq_true_iff,all_take]
 constructor
 ·rintro ⟨⟨h1,h2⟩,h3⟩
  exact⟨h1,h2,fun j u hj hu=>by simpa using h3 j u hj hu⟩
 ·rintro ⟨h1,h2,h3⟩
  exact⟨⟨h1,h2⟩,fun j u hj hu=>by simpa using h3 j u hj hu⟩
theorem eOkR_iff {vs:List Vx} {es:List Ed} {i:Nat} {e:Ed}:eOkR vs es i e=true↔ ∃A B,EOk vs es i e A B:=by
 unfold eOkR
 simp only[Bool.and_eq_true,decide_eq_true_iff,List.all_eq_true,take_iff]
 constructor
 ·rintro ⟨⟨⟨⟨⟨⟨h1,h2⟩,h3⟩,h4⟩,h5⟩,h6⟩,h7⟩
  obtain⟨A,hA⟩:=Option.isSome_iff_exists.1 h3
  obtain⟨B,hB⟩:=Option.isSome_iff_exists.1 h4
  have eA:ptZ vs e.a=A:=by unfold ptZ;rw[hA];rfl
  have eB:ptZ vs e.b=B:=by unfold ptZ;rw[hB];rfl
  rw[eA,eB] at h6 h7
  exact⟨A,B,h1,hA,hB,h2,h5,fun v hv=>by simpa using h6 v hv,fun j f hj hf=>by simpa using h7 j f hj hf⟩
 ·rintro ⟨A,B,h1,hA,hB,h2,h5,h6,h7⟩
  have eA:ptZ vs e.a=A:=by unfold ptZ;rw[hA];rfl
  have eB:ptZ vs e.b=B:=by unfold ptZ;rw[hB];rfl
  rw[eA,eB,hA,hB]
  exact⟨⟨⟨⟨⟨⟨h1,h2⟩,rfl⟩,rfl⟩,h5⟩,fun v hv=>by simpa using h6 v hv⟩,fun j f hj hf=>by simpa using h7 j f hj hf⟩
theorem rightR_iff {p:PL}:rightR p=true↔RightP p:=by
 unfold rightR
 rw[Bool.and_eq_true,Bool.and_eq_true,Bool.and_eq_true,decide_eq_true_iff,decide_eq_true_iff,all_range,all_range]
 constructor
 ·rintro ⟨⟨⟨h1,h2⟩,h3⟩,h4⟩
  exact⟨h1,h2,fun i v hv=>vOkR_iff.1 (h3 i v hv),fun i e he=>eOkR_iff.1 (h4 i e he)⟩
 ·rintro ⟨h1,h2,h3,h4⟩
  exact⟨⟨⟨h1,h2⟩,fun i v hv=>vOkR_iff.2 (h3 i v hv)⟩,fun i e he=>eOkR_iff.2 (h4 i e he)⟩
theorem rightR_eq (p:PL):rightR p=rightB p:=by
 rw[Bool.eq_iff_iff,rightR_iff,rightB_iff]
end Go.Proofs.Ythopjhifepijiaa
namespace Go.Proofs.Ythopjhifepijiaa
open Go.RowKit
theorem idx_hit {α:Type} {f:α→Bool}: ∀ {l:List α} {k:Nat} {x:α},(∀y∈l.take k,f y=false)→l[k]? =some x→f x=true→l.findIdx f=k
 | [],k,x,_,hx,_=>by simp at hx
 |y::l,0,x,_,hx,hf=>by
  simp at hx
  subst hx
  rw[List.findIdx_cons,hf];rfl
 |y::l,k+1,x,h,hx,hf=>by
  rw[List.take_succ_cons] at h
  rw[List.findIdx_cons,h y (by simp)]
  show l.findIdx f+1=k+1
  rw[idx_hit (k:=k) (fun z hz=>h z (List.mem_cons_of_mem _ hz)) (by simpa using hx) hf]
def plI (vs:List Vx) (id:Int):Int:=if hasV vs id=true then(placeV vs id:Int) else -1
theorem all_no {α:Type} {f:α→Bool} {l:List α} (h: ∀y∈l,f y=false):l.find? f=none:=by
 rw[List.find?_eq_none]
 intro y hy e
 rw[h y hy] at e
 cases e
set_option maxRecDepth 100000 in
set_option maxHeartbeats 4000000 in
theorem r15vertex_any {w:World} {B vn vc:Nat} {va:Option Addr} {vs:List Vx} (hv:VsIn w B va vn vs) (hB:B≤w.heap.size) (hn:vn≤100000) (es:Value) (hes: ∃a n c,es= .slice a n c) (id:Int):
  Calls Try.prog 53 #[.agg #[.slice va vn vc,es], .int .i64 id] w fun e w'=>e= .returned (.int .i64 (plI vs id))∧Below w.heap.size w w':=by
 obtain⟨ea,en,ec,rfl⟩:=hes
 have HV:=fun(W:World) (hb:Below w.heap.size w W)=>Lib.hid (hv.below (hb.mono hB))
 have HL:=Lib.hid hv.1
 clear hv
 go_enter Try.func53,Try.ntmps53
 go_wp2_with fail
 first|refine wp_name (fun W hW=> ?_)|refine calls_name (fun W hW=> ?_)
 have HW:Hid (Below w.heap.size w W):=Lib.hid (by rw[←hW];repeat (first|exact Below.refl _ _|refine below_alloc ?_))
 have HWs:Hid (W.heap.size=w.heap.size+1):=Lib.hid (by rw[←hW];simp)
 have HBW:Hid (W.heap.size≤W.heap.size):=Lib.hid (by have:=HWs.out;omega)
 have HC:=fun(W1:World) (hb:Below (W.heap.size) W W1)=>Lib.hid (show W1.cell? ⟨w.heap.size,0,none⟩=some (.slice va vn vc)∧W1.cell? ⟨w.heap.size,1,none⟩=some (.slice ea en ec) from by have hs:=HWs.out;refine⟨?_, ?_⟩<;>(refine(hb.cell (by dsimp only;omega)).trans ?_;rw[←hW];clear hW;go_simp))
 have HB:=Lib.hid (Below.refl (W.heap.size) W)
 clear hW
 have HZ:=fun(W1:World) (hb:W.heap.size≤W1.heap.size)=>Lib.hid (show w.heap.size<W1.heap.size from by have:=HWs.out;omega)
 obtain⟨qx0,qx1⟩:=(HC _ HB.out).out
 have rx0:=(HZ _ HB.out.size).out
 clear qx0 qx1 rx0
 go_loopw [5] (fun v wr=> ∃k:Nat,k≤vn∧v= .int .i64 k∧(∀y∈vs.take k,isV id y=false)∧Below W.heap.size W wr) (fun v _=>vn - (intOf v).toNat)
 case atStart=>exact⟨0,Nat.zero_le _,rfl,fun y hy=>by simp at hy,HB.out⟩
 case round=>
  clear HB
  obtain⟨k,hk,rfl,hall,hb⟩:=hrel
  have HB:=Lib.hid hb
  have HA:=Lib.hid hall
  clear hb hall
  obtain⟨qx0,qx1⟩:=(HC _ HB.out).out
  have rx0:=(HZ _ HB.out.size).out
  have HX:=Lib.hid (HW.out.trans (HB.out.mono HW.out.size))
  by_cases hlt:k<vn
  ·obtain⟨vb,off,v,rfl,hvb,hv,e0,e1,e2⟩:=(HV _ HX.out).out.at_ hlt
   have HVK:=Lib.hid hv
   clear hv
   cases hon:isV id v
   ·have hq:(v.id==id)=false:=hon
    have HON:=Lib.hid hon
    clear hon
    go_wp2_with fail
    go_roundw
    case rel=>
     refine⟨k+1,by omega,by go_num,fun y hy=> ?_,HB.out⟩
     rw[take_snoc' HVK.out] at hy
     rcases List.mem_append.1 hy with hy|hy
     ·exact HA.out y hy
     ·simp at hy;subst hy;exact HON.out
    case measure=>simp[intOf];omega
   ·have hq:(v.id==id)=true:=hon
    have F:=Lib.hid (show plI vs id=(k:Int) from by
     unfold plI hasV
     rw[find_hit HA.out HVK.out hon,if_pos (show(some v).isSome=true from rfl)]
     have:=idx_hit HA.out HVK.out hon
     unfold placeV
     exact congrArg Int.ofNat this)
    clear hon
    go_wp2_with fail
    go_ret
    exact⟨by rw[F.out];rfl,bfn HW HB⟩
  ·obtain rfl:k=vn:=by omega
   have F:=Lib.hid (show plI vs id= -1 from by
    unfold plI hasV
    rw[all_no (fun y hy=>HA.out y (by rw[HL.out,List.take_length];exact hy)),if_neg (by decide)])
   go_wp2_with fail
   go_ret
   exact⟨by rw[F.out];rfl,bfn HW HB⟩
end Go.Proofs.Ythopjhifepijiaa
namespace Go.Proofs.Ythopjhifepijiaa
open Go.RowKit Go.Joins
theorem res_pt {fn:Func} {p:Tmp} {tmps:Array Value} {W:World} {g:Nat} {q:Pt} (h:fn.results= #[.cell p 51]) (hp:tmps.getD p undef= .pointer (some ⟨g,0,none⟩)) (hr:W.rowIs g 51 2 (ptF q)):
  (results fn tmps).run Try.prog W= .ok (ptV q) W:=by
 obtain⟨c,hc,hs,hi⟩:=hr
 have hcs:c= #[.int .i64 q.x, .int .i64 q.y]:=by
  apply Array.ext_getElem?
  intro i
  by_cases hlt:i<2
  ·rw[hi i hlt]
   rcases i with _|_|i<;>first|rfl|(exfalso;omega)
  ·rw[Array.getElem?_eq_none (by omega),Array.getElem?_eq_none (by simp;omega)]
 subst hcs
 exact results_cell_row h tmps W g _ _ _ _ hp hc Try.underlying51 rfl (by kernel_rfl)
theorem Try.results26:Try.f26.results= #[.cell 4 51]:=by kernel_rfl
theorem placeV_at {vs:List Vx} {id:Int} (h:hasV vs id=true):vs[placeV vs id]? =some (findV vs id)∧plI vs id=(placeV vs id:Int):=by
 refine⟨?_,by unfold plI;rw[if_pos h]⟩
 unfold hasV at h
 obtain⟨v,hv⟩:=Option.isSome_iff_exists.1 h
 unfold findV
 rw[hv]
 obtain⟨hp,i,hi,e,hno⟩:=List.find?_eq_some_iff_getElem.1 hv
 have hx:vs[i]? =some v:=by rw[List.getElem?_eq_getElem hi,e]
 have:=idx_hit (f:=isV id) (k:=i) (fun y hy=>by
  obtain⟨j,hj⟩:=List.mem_iff_getElem?.1 hy
  rw[List.getElem?_take] at hj
  split at hj
  ·rename_i hji
   have hjl:=(List.getElem?_eq_some_iff.1 hj).1
   have:=hno j hji
   rw[(List.getElem?_eq_some_iff.1 hj).2] at this
   simpa using this
  ·cases hj) hx hp
 have e2:placeV vs id=i:=this
 rw[e2,hx]
 rfl
set_option maxRecDepth 100000 in
set_option maxHeartbeats 4000000 in
theorem r15at_any {w:World} {B vn vc:Nat} {va:Option Addr} {vs:List Vx} (hv:VsIn w B va vn vs) (hB:B≤w.heap.size) (hn:vn≤100000) (es:Value) (hes: ∃a n c,es= .slice a n c) (id:Int) (hid:hasV vs id=true):
  Calls Try.prog 26 #[.agg #[.slice va vn vc,es], .int .i64 id] w fun e w'=>e= .returned (.agg #[.int .i64 (findV vs id).at_.x, .int .i64 (findV vs id).at_.y])∧Below w.heap.size w w':=by
 obtain⟨hpl,hpi⟩:=placeV_at hid
 have HVX:=fun(W:World) (hb:Below w.heap.size w W)=>Lib.hid (r15vertex_any (w:=W) (vc:=vc) (hv.below (hb.mono hB)) (Nat.le_trans hB hb.size) hn es hes id)
 rw[hpi] at HVX
 have hk:placeV vs id<vn:=by rw[hv.1];exact(List.getElem?_eq_some_iff.1 hpl).1
 obtain⟨vb,off,v,rfl,hvb,hx,e0,e1,e2⟩:=hv.at_ hk
 rw[hpl] at hx
 injection hx with hx
 generalize findV vs id=f at*
 subst hx
 generalize placeV vs id=k at*
 have HE:=Lib.hid (show w.cell? ⟨vb,off+k*3+1,none⟩=some (.int .i64 f.at_.x)∧w.cell? ⟨vb,off+k*3+1+1,none⟩=some (.int .i64 f.at_.y) from⟨e1,e2⟩)
 have hvw:vb<w.heap.size:=by omega
 obtain⟨ea,en,ec,rfl⟩:=hes
 clear hpl hpi hv hid e0 e1 e2
 go_enter Try.func26,Try.ntmps26
 go_wp2_with fail
 first|refine wp_name (fun W hW=> ?_)|refine calls_name (fun W hW=> ?_)
 have HW:Hid (Below w.heap.size w W):=Lib.hid (by rw[←hW];repeat (first|exact Below.refl _ _|refine below_alloc ?_))
 have HWs:Hid (W.heap.size=w.heap.size+1+1):=Lib.hid (by rw[←hW];simp)
 have HBW:Hid (W.heap.size≤W.heap.size):=Lib.hid (by have:=HWs.out;omega)
 have HC:=fun(W1:World) (hb:Below (W.heap.size) W W1)=>Lib.hid (show W1.cell? ⟨w.heap.size,0,none⟩=some (.slice (some ⟨vb,off,none⟩) vn vc)∧W1.cell? ⟨w.heap.size,1,none⟩=some (.slice ea en ec)∧W1.cell? ⟨w.heap.size+1,0,none⟩=some (.int .i64 0)∧W1.cell? ⟨w.heap.size+1,1,none⟩=some (.int .i64 0) from by have hs:=HWs.out;refine⟨?_, ?_, ?_, ?_⟩<;>(refine(hb.cell (by dsimp only;omega)).trans ?_;rw[←hW];clear hW;go_simp))
 have HB:=Lib.hid (Below.refl (W.heap.size) W)
 have HZ:=fun(W1:World) (hb:W.heap.size≤W1.heap.size)=>Lib.hid (show w.heap.size<W1.heap.size∧w.heap.size+1<W1.heap.size from by have:=HWs.out;refine⟨?_, ?_⟩<;>omega)
 obtain⟨qx0,qx1,qx2,qx3⟩:=(HC _ HB.out).out
 obtain⟨rx0,rx1⟩:=(HZ _ HB.out.size).out
 have HP0:=Lib.hid (show W.rowIs (w.heap.size+1) 51 2 (ptF ⟨0,0⟩) from by
  have:=World.rowIs_alloc (w.alloc (.cells #[.slice (some ⟨vb,off,none⟩) vn vc, .slice ea en ec] 25)) #[.int .i64 0, .int .i64 0] 51 (ptF ⟨0,0⟩) (ptF_get ⟨0,0⟩)
  rw[hW] at this
  simpa using this)
 clear hW
 clear qx0 qx1 qx2 qx3 rx0 rx1
 go_upto_region 1 with fail
 have HY:=fun(w':World) (t:Below W.heap.size W w')=>Lib.hid (show w'.cell? ⟨w.heap.size,0,none⟩=some (.slice (some ⟨vb,off,none⟩) vn vc)∧w'.cell? ⟨w.heap.size,1,none⟩=some (.slice ea en ec)∧w'.cell? ⟨vb,off+k*3+1,none⟩=some (.int .i64 f.at_.x)∧w'.cell? ⟨vb,off+k*3+1+1,none⟩=some (.int .i64 f.at_.y) from by
  have hc:=(HC _ t).out
  have hb:=HW.out.trans (t.mono HW.out.size)
  exact⟨hc.1,hc.2.1,(hb.cell (p:=⟨vb,_,none⟩) hvw).trans HE.out.1,(hb.cell (p:=⟨vb,_,none⟩) hvw).trans HE.out.2⟩)
 have HS0:=Lib.hid (Below.refl W.heap.size W).drew
 refine wp_region_noPanic ?_
 refine wp_region_par3 8 8 (by kernel_rfl) (by kernel_rfl) (by simp) (by omega) (by kernel_rfl) (by kernel_rfl) (fun w':World=>Below W.heap.size W w') ?_
 refine par3_move (v:= ?_) 0 (by simp only[zga,zgb,zgc];rfl) (by kernel_rfl) (by rfl) ?_ (fun _ _ _ h=>h) ?_
 rotate_left
 ·(intro w9;go_simp;try with_reducible rfl)
 simp only[Act.put,zpa,zpb,zpc]
 refine par3_read (v:= ?_) 1 (by simp only[zga,zgb,zgc];rfl) (by kernel_rfl) (by rfl) HS0.out ?_ (fun _ _ _ h=>h) ?_
 rotate_left
 ·(intro w9 hSw;obtain⟨y0,y1,y2,y3⟩:=(HY w9 hSw).out;clear hSw;go_simp;try with_reducible rfl)
 simp only[Act.put,zpa,zpb,zpc]
 refine par3_read (v:= ?_) 2 (by simp only[zga,zgb,zgc];rfl) (by kernel_rfl) (by rfl) HS0.out ?_ (fun _ _ _ h=>h) ?_
 rotate_left
 ·(intro w9 hSw;obtain⟨y0,y1,y2,y3⟩:=(HY w9 hSw).out;clear hSw;go_simp;try with_reducible rfl)
 simp only[Act.put,zpa,zpb,zpc]
 refine par3_move (v:= ?_) 3 (by simp only[zga,zgb,zgc];rfl) (by kernel_rfl) (by rfl) ?_ (fun _ _ _ h=>h) ?_
 rotate_left
 ·(intro w9;go_simp;try with_reducible rfl)
 simp only[Act.put,zpa,zpb,zpc]
 refine par3_nm (fun W8 hW8=> ?_)
 rw[←hW8] at HS0
 clear hW8
 refine par3_one 4 (by simp only[zga,zgb,zgc];rfl) (by kernel_rfl) (by rfl) ?_
 refine owp_call (by go_simp;constructor<;>rfl) ?_
 refine(HVX _ (HW.out.trans (HS0.out.mono HW.out.size))).out.mono ?_
 rintro x w9 ⟨rfl,hb9⟩
 have HT9:=Lib.hid (below_next HS0.out HS0.out.size hb9)
 refine⟨_,rfl,fun s _=>HT9.out, ?_⟩
 clear hb9
 have HS0:=HT9
 simp only[Act.put,zpa,zpb,zpc]
 refine par3_move (v:= ?_) 5 (by simp only[zga,zgb,zgc];rfl) (by kernel_rfl) (by rfl) ?_ (fun _ _ _ h=>h) ?_
 rotate_left
 ·(intro w9;go_simp;try with_reducible rfl)
 simp only[Act.put,zpa,zpb,zpc]
 refine par3_move (v:= ?_) 6 (by simp only[zga,zgb,zgc];rfl) (by kernel_rfl) (by rfl) ?_ (fun _ _ _ h=>h) ?_
 rotate_left
 ·(intro w9;go_simp;try with_reducible rfl)
 simp only[Act.put,zpa,zpb,zpc]
 refine par3_read (v:= ?_) 7 (by simp only[zga,zgb,zgc];rfl) (by kernel_rfl) (by rfl) HS0.out ?_ (fun _ _ _ h=>h) ?_
 rotate_left
 ·(intro w9 hSw;obtain⟨y0,y1,y2,y3⟩:=(HY w9 hSw).out;clear hSw;go_simp;try with_reducible rfl)
 simp only[Act.put,zpa,zpb,zpc]
 have HP1:=Lib.hid (rowIs_touch HP0.out (Touch.of_below (F:=[]) HT9.out) (by simp))
 have f0:=fun i=>World.rowIs.frozen HP1.out i
 have p0:w9.cell? ⟨w.heap.size+1,0,none⟩=some (.int .i64 0):=World.rowIs.cell HP1.out (i:=0) (by decide)
 have p1:w9.cell? ⟨w.heap.size+1,1,none⟩=some (.int .i64 0):=World.rowIs.cell HP1.out (i:=1) (by decide)
 refine par3_tail _ (by simp only[List.drop_succ_cons,List.drop_zero];rfl) (by kernel_rfl) ?_
 go_wp2_with fail
 refine NoPanic.normal ?_
 go_wp2_with fail
 refine bodyPost_ret_by (res_pt (q:=f.at_) Try.results26 rfl (World.rowIs.congr (World.rowIs.set (World.rowIs.set HP1.out 0 _) 1 _) (fun i hi=>by rcases i with _|_|i<;>first|rfl|exact absurd hi (by omega)))) rfl ?_
 exact⟨rfl,((HW.out.trans (HT9.out.mono HW.out.size)).setCell (p:=⟨w.heap.size+1,0,none⟩) (by show _≤w.heap.size+1;omega) _).setCell (p:=⟨w.heap.size+1,1,none⟩) (by show _≤w.heap.size+1;omega) _⟩
end Go.Proofs.Ythopjhifepijiaa
namespace Go.Proofs.Ythopjhifepijiaa
open Go.RowKit Go.Joins
def linkB (a b:Int) (e:Ed):Bool:=(decide (e.a=a)&&decide (e.b=b))||(decide (e.a=b)&&decide (e.b=a))
theorem link_cases (a b:Int) (e:Ed):((e.a==a)=true∧(e.b==b)=true∧Hid (linkB a b e=true))∨((e.a==a)=true∧(e.b==b)=false∧(e.a==b)=false∧Hid (linkB a b e=false))∨((e.a==a)=true∧(e.b==b)=false∧(e.a==b)=true∧(e.b==a)=true∧Hid (linkB a b e=true))∨
  ((e.a==a)=true∧(e.b==b)=false∧(e.a==b)=true∧(e.b==a)=false∧Hid (linkB a b e=false))∨((e.a==a)=false∧(e.a==b)=false∧Hid (linkB a b e=false))∨((e.a==a)=false∧(e.a==b)=true∧(e.b==a)=true∧Hid (linkB a b e=true))∨((e.a==a)=false∧(e.a==b)=true∧(e.b==a)=false∧Hid (linkB a b e=false)):=by
 have h:linkB a b e=((e.a==a)&&(e.b==b)||(e.a==b)&&(e.b==a)):=by
  unfold linkB
  rfl
 rw[h]
 generalize (e.a==a)=p
 generalize (e.b==b)=q
 generalize (e.a==b)=r
 generalize (e.b==a)=s
 cases p<;>cases q<;>cases r<;>cases s
 all_goals
  first
  |exact .inl ⟨rfl,rfl,Lib.hid rfl⟩
  |exact .inr (.inl ⟨rfl,rfl,rfl,Lib.hid rfl⟩)
  |exact .inr (.inr (.inl ⟨rfl,rfl,rfl,rfl,Lib.hid rfl⟩))
  |exact .inr (.inr (.inr (.inl ⟨rfl,rfl,rfl,rfl,Lib.hid rfl⟩)))
  |exact .inr (.inr (.inr (.inr (.inl ⟨rfl,rfl,Lib.hid rfl⟩))))
  |exact .inr (.inr (.inr (.inr (.inr (.inl ⟨rfl,rfl,rfl,Lib.hid rfl⟩)))))
  |exact .inr (.inr (.inr (.inr (.inr (.inr ⟨rfl,rfl,rfl,Lib.hid rfl⟩)))))
set_option maxRecDepth 100000 in
set_option maxHeartbeats 8000000 in
theorem r15links_any {w:World} {B en ec:Nat} {ea:Option Addr} {es:List Ed} (hv:EsIn w B ea en es) (hB:B≤w.heap.size) (hn:en≤100000) (vs:Value) (hes: ∃a n c,vs= .slice a n c) (a b:Int):
  Calls Try.prog 54 #[.agg #[vs, .slice ea en ec], .int .i64 a, .int .i64 b] w fun e w'=>e= .returned (.bool (es.any (linkB a b)))∧Below w.heap.size w w':=by
 obtain⟨va,vn,vc,rfl⟩:=hes
 have HV:=fun(W:World) (hb:Below w.heap.size w W)=>Lib.hid (hv.below (hb.mono hB))
 have HL:=Lib.hid hv.1
 clear hv
 go_enter Try.func54,Try.ntmps54
 go_wp2_with fail
 first|refine wp_name (fun W hW=> ?_)|refine calls_name (fun W hW=> ?_)
 have HW:Hid (Below w.heap.size w W):=Lib.hid (by rw[←hW];repeat (first|exact Below.refl _ _|refine below_alloc ?_))
 have HWs:Hid (W.heap.size=w.heap.size+1):=Lib.hid (by rw[←hW];simp)
 have HBW:Hid (W.heap.size≤W.heap.size):=Lib.hid (by have:=HWs.out;omega)
 have HC:=fun(W1:World) (hb:Below (W.heap.size) W W1)=>Lib.hid (show W1.cell? ⟨w.heap.size,0,none⟩=some (.slice va vn vc)∧W1.cell? ⟨w.heap.size,1,none⟩=some (.slice ea en ec) from by have hs:=HWs.out;refine⟨?_, ?_⟩<;>(refine(hb.cell (by dsimp only;omega)).trans ?_;rw[←hW];clear hW;go_simp))
 have HB:=Lib.hid (Below.refl (W.heap.size) W)
 clear hW
 have HZ:=fun(W1:World) (hb:W.heap.size≤W1.heap.size)=>Lib.hid (show w.heap.size<W1.heap.size from by have:=HWs.out;omega)
 obtain⟨qx0,qx1⟩:=(HC _ HB.out).out
 have rx0:=(HZ _ HB.out.size).out
 clear qx0 qx1 rx0
 go_loopw [7] (fun v wr=> ∃k:Nat,k≤en∧v= .int .i64 k∧(∀y∈es.take k,linkB a b y=false)∧Below W.heap.size W wr) (fun v _=>en - (intOf v).toNat)
 case atStart=>exact⟨0,Nat.zero_le _,rfl,fun y hy=>by simp at hy,HB.out⟩
 case round=>
  clear HB
  obtain⟨k,hk,rfl,hall,hb⟩:=hrel
  have HB:=Lib.hid hb
  have HA:=Lib.hid hall
  clear hb hall
  obtain⟨qx0,qx1⟩:=(HC _ HB.out).out
  have rx0:=(HZ _ HB.out.size).out
  have HX:=Lib.hid (HW.out.trans (HB.out.mono HW.out.size))
  by_cases hlt:k<en
  ·obtain⟨vb,off,v,rfl,hvb,hv,e0,e1,e2⟩:=(HV _ HX.out).out.at_ hlt
   have HVK:=Lib.hid hv
   have hvw:vb<wr.heap.size:=by have:=HX.out.size;omega
   have HB1:=Lib.hid (HB.out.alloc HB.out.size (.cells #[.int .i64 v.id, .int .i64 v.a, .int .i64 v.b] 63))
   clear hv
   rcases link_cases a b v with ⟨q1,q2,HK⟩|⟨q1,q2,q3,HK⟩|⟨q1,q2,q3,q4,HK⟩|⟨q1,q2,q3,q4,HK⟩|⟨q1,q2,HK⟩|⟨q1,q2,q3,HK⟩|⟨q1,q2,q3,HK⟩
   case inl|inr.inr.inl|inr.inr.inr.inr.inr.inl=>
    have F:=Lib.hid (show es.any (linkB a b)=true from List.any_eq_true.2 ⟨v,List.mem_of_getElem? HVK.out,HK.out⟩)
    go_wp2_with fail
    go_ret
    exact⟨by rw[F.out];rfl,HW.out.trans (HB1.out.mono HW.out.size)⟩
   all_goals
    go_wp2_with fail
    go_roundw
    case rel=>
     refine⟨k+1,by omega,by go_num,fun y hy=> ?_,HB1.out⟩
     rw[take_snoc' HVK.out] at hy
     rcases List.mem_append.1 hy with hy|hy
     ·exact HA.out y hy
     ·simp at hy;subst hy;exact HK.out
    case measure=>simp[intOf];omega
  ·obtain rfl:k=en:=by omega
   have F:=Lib.hid (show es.any (linkB a b)=false from by
    rw[List.any_eq_false]
    intro y hy
    rw[HA.out y (by rw[HL.out,List.take_length];exact hy)]
    decide)
   go_wp2_with fail
   go_ret
   exact⟨by rw[F.out];rfl,bfn HW HB⟩
set_option maxRecDepth 100000 in
set_option maxHeartbeats 8000000 in
theorem r15on_any {w:World} {B vn vc:Nat} {va:Option Addr} {vs:List Vx} (hv:VsIn w B va vn vs) (hB:B≤w.heap.size) (hn:vn≤100000) (es:Value) (hes: ∃a n c,es= .slice a n c) (a b:Pt) (hin: ∀v∈vs,inB v.at_=true) (ha:inB a=true) (hb:inB b=true):
  Calls Try.prog 55 #[.agg #[.slice va vn vc,es], .agg #[.int .i64 a.x, .int .i64 a.y], .agg #[.int .i64 b.x, .int .i64 b.y]] w fun e w'=>e= .returned (.bool (vs.any fun v=>onB v.at_ a b))∧Below w.heap.size w w':=by
 obtain⟨ea,en,ec,rfl⟩:=hes
 have HV:=fun(W:World) (hb:Below w.heap.size w W)=>Lib.hid (hv.below (hb.mono hB))
 have HL:=Lib.hid hv.1
 have HON:=fun(v:Vx) (hv:v∈vs) (W:World)=>Lib.hid (r5on_any v.at_ a b W (hin v hv) ha hb)
 clear hv hin ha hb
 go_enter Try.func55,Try.ntmps55
 go_wp2_with fail
 first|refine wp_name (fun W hW=> ?_)|refine calls_name (fun W hW=> ?_)
 have HW:Hid (Below w.heap.size w W):=Lib.hid (by rw[←hW];repeat (first|exact Below.refl _ _|refine below_alloc ?_))
 have HWs:Hid (W.heap.size=w.heap.size+1+1+1):=Lib.hid (by rw[←hW];simp)
 have HBW:Hid (W.heap.size≤W.heap.size):=Lib.hid (by have:=HWs.out;omega)
 have HC:=fun(W1:World) (hb:Below (W.heap.size) W W1)=>Lib.hid (show W1.cell? ⟨w.heap.size,0,none⟩=some (.slice va vn vc)∧W1.cell? ⟨w.heap.size,1,none⟩=some (.slice ea en ec)∧W1.cell? ⟨w.heap.size+1,0,none⟩=some (.int .i64 a.x)∧W1.cell? ⟨w.heap.size+1,1,none⟩=some (.int .i64 a.y)∧W1.cell? ⟨w.heap.size+1+1,0,none⟩=some (.int .i64 b.x)∧W1.cell? ⟨w.heap.size+1+1,1,none⟩=some (.int .i64 b.y) from by have hs:=HWs.out;refine⟨?_, ?_, ?_, ?_, ?_, ?_⟩<;>(refine(hb.cell (by dsimp only;omega)).trans ?_;rw[←hW];clear hW;go_simp))
 have HB:=Lib.hid (Below.refl (W.heap.size) W)
 clear hW
 have HZ:=fun(W1:World) (hb:W.heap.size≤W1.heap.size)=>Lib.hid (show w.heap.size<W1.heap.size∧w.heap.size+1<W1.heap.size∧w.heap.size+1+1<W1.heap.size from by have:=HWs.out;refine⟨?_, ?_, ?_⟩<;>omega)
 obtain⟨qx0,qx1,qx2,qx3,qx4,qx5⟩:=(HC _ HB.out).out
 obtain⟨rx0,rx1,rx2⟩:=(HZ _ HB.out.size).out
 clear qx0 qx1 qx2 qx3 qx4 qx5 rx0 rx1 rx2
 go_loopw [7] (fun v wr=> ∃k:Nat,k≤vn∧v= .int .i64 k∧(∀y∈vs.take k,onB y.at_ a b=false)∧Below W.heap.size W wr) (fun v _=>vn - (intOf v).toNat)
 case atStart=>exact⟨0,Nat.zero_le _,rfl,fun y hy=>by simp at hy,HB.out⟩
 case round=>
  clear HB
  obtain⟨k,hk,rfl,hall,hb⟩:=hrel
  have HB:=Lib.hid hb
  have HA:=Lib.hid hall
  clear hb hall
  obtain⟨qx0,qx1,qx2,qx3,qx4,qx5⟩:=(HC _ HB.out).out
  obtain⟨rx0,rx1,rx2⟩:=(HZ _ HB.out.size).out
  have HX:=Lib.hid (HW.out.trans (HB.out.mono HW.out.size))
  by_cases hlt:k<vn
  ·obtain⟨vb,off,v,rfl,hvb,hv,e0,e1,e2⟩:=(HV _ HX.out).out.at_ hlt
   have HVK:=Lib.hid hv
   have hvw:vb<wr.heap.size:=by have:=HX.out.size;omega
   have HO2:=HON v (List.mem_of_getElem? hv)
   have HE:=Lib.hid (show wr.cell? ⟨vb,off+k*3+1,none⟩=some (.int .i64 v.at_.x)∧wr.cell? ⟨vb,off+k*3+1+1,none⟩=some (.int .i64 v.at_.y) from⟨e1,e2⟩)
   clear hv e0 e1 e2
   go_upto_region 4 with fail
   clear qx0 qx1 qx2 qx3 qx4 qx5 rx0 rx1 rx2
   have HY:=fun(w':World) (t:Below wr.heap.size wr w')=>Lib.hid (show w'.cell? ⟨w.heap.size,0,none⟩=some (.slice (some ⟨vb,off,none⟩) vn vc)∧w'.cell? ⟨w.heap.size,1,none⟩=some (.slice ea en ec)∧w'.cell? ⟨vb,off+k*3+1,none⟩=some (.int .i64 v.at_.x)∧w'.cell? ⟨vb,off+k*3+1+1,none⟩=some (.int .i64 v.at_.y)∧w'.cell? ⟨w.heap.size+1,0,none⟩=some (.int .i64 a.x)∧w'.cell? ⟨w.heap.size+1,1,none⟩=some (.int .i64 a.y)∧w'.cell? ⟨w.heap.size+1+1,0,none⟩=some (.int .i64 b.x)∧w'.cell? ⟨w.heap.size+1+1,1,none⟩=some (.int .i64 b.y) from by
    obtain⟨d0,d1,d2,d3,d4,d5⟩:=(HC _ (HB.out.trans (t.mono HB.out.size))).out
    exact⟨d0,d1,(t.cell (p:=⟨vb,_,none⟩) hvw).trans HE.out.1,(t.cell (p:=⟨vb,_,none⟩) hvw).trans HE.out.2,d2,d3,d4,d5⟩)
   have HS0:=Lib.hid (Below.refl wr.heap.size wr).drew
   refine wp_region_noPanic ?_
   refine wp_region_par3 8 8 (by kernel_rfl) (by kernel_rfl) (by simp) (by omega) (by kernel_rfl) (by kernel_rfl) (fun w':World=>Below wr.heap.size wr w') ?_
   refine par3_move (v:= ?_) 0 (by simp only[zga,zgb,zgc];rfl) (by kernel_rfl) (by rfl) ?_ (fun _ _ _ h=>h) ?_
   rotate_left
   ·(intro w9;go_simp;try with_reducible rfl)
   simp only[Act.put,zpa,zpb,zpc]
   refine par3_read (v:= ?_) 1 (by simp only[zga,zgb,zgc];rfl) (by kernel_rfl) (by rfl) HS0.out ?_ (fun _ _ _ h=>h) ?_
   rotate_left
   ·(intro w9 hSw;obtain⟨y0,y1,y2,y3,y4,y5,y6,y7⟩:=(HY w9 hSw).out;clear hSw;go_simp;try with_reducible rfl)
   simp only[Act.put,zpa,zpb,zpc]
   refine par3_move (v:= ?_) 2 (by simp only[zga,zgb,zgc];rfl) (by kernel_rfl) (by rfl) ?_ (fun _ _ _ h=>h) ?_
   rotate_left
   ·(intro w9;go_simp;try with_reducible rfl)
   simp only[Act.put,zpa,zpb,zpc]
   refine par3_move (v:= ?_) 3 (by simp only[zga,zgb,zgc];rfl) (by kernel_rfl) (by rfl) ?_ (fun _ _ _ h=>h) ?_
   rotate_left
   ·(intro w9;go_simp;try with_reducible rfl)
   simp only[Act.put,zpa,zpb,zpc]
   refine par3_move (v:= ?_) 4 (by simp only[zga,zgb,zgc];rfl) (by kernel_rfl) (by rfl) ?_ (fun _ _ _ h=>h) ?_
   rotate_left
   ·(intro w9;go_simp;try with_reducible rfl)
   simp only[Act.put,zpa,zpb,zpc]
   refine par3_read (v:= ?_) 5 (by simp only[zga,zgb,zgc];rfl) (by kernel_rfl) (by rfl) HS0.out ?_ (fun _ _ _ h=>h) ?_
   rotate_left
   ·(intro w9 hSw;obtain⟨y0,y1,y2,y3,y4,y5,y6,y7⟩:=(HY w9 hSw).out;clear hSw;go_simp;try with_reducible rfl)
   simp only[Act.put,zpa,zpb,zpc]
   refine par3_read (v:= ?_) 6 (by simp only[zga,zgb,zgc];rfl) (by kernel_rfl) (by rfl) HS0.out ?_ (fun _ _ _ h=>h) ?_
   rotate_left
   ·(intro w9 hSw;obtain⟨y0,y1,y2,y3,y4,y5,y6,y7⟩:=(HY w9 hSw).out;clear hSw;go_simp;try with_reducible rfl)
   simp only[Act.put,zpa,zpb,zpc]
   refine par3_read (v:= ?_) 7 (by simp only[zga,zgb,zgc];rfl) (by kernel_rfl) (by rfl) HS0.out ?_ (fun _ _ _ h=>h) ?_
   rotate_left
   ·(intro w9 hSw;obtain⟨y0,y1,y2,y3,y4,y5,y6,y7⟩:=(HY w9 hSw).out;clear hSw;go_simp;try with_reducible rfl)
   simp only[Act.put,zpa,zpb,zpc]
   refine par3_nm (fun W8 hW8=> ?_)
   rw[←hW8] at HS0
   clear hW8
   refine par3_tail _ (by simp only[List.drop_succ_cons,List.drop_zero];rfl) (by kernel_rfl) ?_
   go_wp2_with fail
   refine(HO2 _).out.mono ?_
   rintro x w9 ⟨rfl,hb9⟩
   have HT9:=Lib.hid (below_next HS0.out HS0.out.size hb9)
   clear hb9
   have HB9:=Lib.hid (HB.out.trans (HT9.out.mono HB.out.size))
   cases hon:onB v.at_ a b
   ·have HK:=Lib.hid hon
    clear hon
    go_wp2_with fail
    refine NoPanic.normal ?_
    go_wp2_with fail
    go_roundw
    case rel=>
     refine⟨k+1,by omega,by go_num,fun y hy=> ?_,HB9.out⟩
     rw[take_snoc' HVK.out] at hy
     rcases List.mem_append.1 hy with hy|hy
     ·exact HA.out y hy
     ·simp at hy;subst hy;exact HK.out
    case measure=>simp[intOf];omega
   ·have F:=Lib.hid (show(vs.any fun v=>onB v.at_ a b)=true from List.any_eq_true.2 ⟨v,List.mem_of_getElem? HVK.out,hon⟩)
    clear hon
    go_wp2_with fail
    refine NoPanic.normal ?_
    go_wp2_with fail
    go_ret
    exact⟨by rw[F.out];rfl,HW.out.trans (HB9.out.mono HW.out.size)⟩
  ·obtain rfl:k=vn:=by omega
   have F:=Lib.hid (show(vs.any fun v=>onB v.at_ a b)=false from by
    rw[List.any_eq_false]
    intro y hy
    rw[HA.out y (by rw[HL.out,List.take_length];exact hy)]
    decide)
   go_wp2_with fail
   go_ret
   exact⟨by rw[F.out];rfl,bfn HW HB⟩
end Go.Proofs.Ythopjhifepijiaa
namespace Go.Proofs.Ythopjhifepijiaa
open Go.RowKit Go.Joins
structure EdIn (vs:List Vx) (e:Ed):Prop where
 va:hasV vs e.a=true
 vb:hasV vs e.b=true
 ia:inB (findV vs e.a).at_=true
 ib:inB (findV vs e.b).at_=true
 ne:(findV vs e.a).at_≠(findV vs e.b).at_
set_option maxRecDepth 100000 in
set_option maxHeartbeats 8000000 in
theorem r15meets_any {w:World} {B vn vc en ec:Nat} {va ea:Option Addr} {vs:List Vx} {es:List Ed} (hv:VsIn w B va vn vs) (he:EsIn w B ea en es) (hB:B≤w.heap.size) (hn:vn≤100000) (hm:en≤100000) (a b:Pt) (ha:inB a=true) (hb:inB b=true) (hab:a≠b) {n:Nat} (hnn:n≤en) (hok: ∀i e,i<n→es[i]? =some e→EdIn vs e):
  Calls Try.prog 56 #[.agg #[.slice va vn vc, .slice ea en ec], .agg #[.int .i64 a.x, .int .i64 a.y], .agg #[.int .i64 b.x, .int .i64 b.y], .int .i64 n] w fun e w'=>e= .returned (.bool ((es.take n).any fun f=>meetB a b (findV vs f.a).at_ (findV vs f.b).at_))∧Below w.heap.size w w':=by
 have HV:=fun(W:World) (hb:Below w.heap.size w W)=>Lib.hid (he.below (hb.mono hB))
 have HL:=Lib.hid he.1
 have HAT:=fun(W:World) (hb:Below w.heap.size w W) (id:Int) (h:hasV vs id=true)=>Lib.hid (r15at_any (w:=W) (vc:=vc) (hv.below (hb.mono hB)) (Nat.le_trans hB hb.size) hn (.slice ea en ec) ⟨_,_,_,rfl⟩ id h)
 have HMT:=fun(e:Ed) (h:EdIn vs e) (W:World)=>Lib.hid (r5meet_any a b (findV vs e.a).at_ (findV vs e.b).at_ W ha hb h.ia h.ib hab h.ne)
 have HOK:=Lib.hid hok
 clear hv he hok ha hb hab
 go_enter Try.func56,Try.ntmps56
 go_wp2_with fail
 first|refine wp_name (fun W hW=> ?_)|refine calls_name (fun W hW=> ?_)
 have HW:Hid (Below w.heap.size w W):=Lib.hid (by rw[←hW];repeat (first|exact Below.refl _ _|refine below_alloc ?_))
 have HWs:Hid (W.heap.size=w.heap.size+1+1+1):=Lib.hid (by rw[←hW];simp)
 have HBW:Hid (W.heap.size≤W.heap.size):=Lib.hid (by have:=HWs.out;omega)
 have HC:=fun(W1:World) (hb:Below (W.heap.size) W W1)=>Lib.hid (show W1.cell? ⟨w.heap.size,0,none⟩=some (.slice va vn vc)∧W1.cell? ⟨w.heap.size,1,none⟩=some (.slice ea en ec)∧W1.cell? ⟨w.heap.size+1,0,none⟩=some (.int .i64 a.x)∧W1.cell? ⟨w.heap.size+1,1,none⟩=some (.int .i64 a.y)∧W1.cell? ⟨w.heap.size+1+1,0,none⟩=some (.int .i64 b.x)∧W1.cell? ⟨w.heap.size+1+1,1,none⟩=some (.int .i64 b.y) from by have hs:=HWs.out;refine⟨?_, ?_, ?_, ?_, ?_, ?_⟩<;>(refine(hb.cell (by dsimp only;omega)).trans ?_;rw[←hW];clear hW;go_simp))
 have HB:=Lib.hid (Below.refl (W.heap.size) W)
 clear hW
 have HZ:=fun(W1:World) (hb:W.heap.size≤W1.heap.size)=>Lib.hid (show w.heap.size<W1.heap.size∧w.heap.size+1<W1.heap.size∧w.heap.size+1+1<W1.heap.size from by have:=HWs.out;refine⟨?_, ?_, ?_⟩<;>omega)
 obtain⟨qx0,qx1,qx2,qx3,qx4,qx5⟩:=(HC _ HB.out).out
 obtain⟨rx0,rx1,rx2⟩:=(HZ _ HB.out.size).out
 clear qx0 qx1 qx2 qx3 qx4 qx5 rx0 rx1 rx2
 go_loopw [9] (fun v wr=> ∃k:Nat,k≤n∧v= .int .i64 k∧(∀y∈es.take k,meetB a b (findV vs y.a).at_ (findV vs y.b).at_=false)∧Below W.heap.size W wr) (fun v _=>n - (intOf v).toNat)
 case atStart=>exact⟨0,Nat.zero_le _,rfl,fun y hy=>by simp at hy,HB.out⟩
 case round=>
  clear HB
  obtain⟨k,hk,rfl,hall,hb⟩:=hrel
  have HB:=Lib.hid hb
  have HA:=Lib.hid hall
  clear hb hall
  obtain⟨qx0,qx1,qx2,qx3,qx4,qx5⟩:=(HC _ HB.out).out
  obtain⟨rx0,rx1,rx2⟩:=(HZ _ HB.out.size).out
  have HX:=Lib.hid (HW.out.trans (HB.out.mono HW.out.size))
  by_cases hlt:k<n
  ·obtain⟨eb,off,v,rfl,hvb,hv,e0,e1,e2⟩:=(HV _ HX.out).out.at_ (k:=k) (by omega)
   have HVK:=Lib.hid hv
   have hvw:eb<wr.heap.size:=by have:=HX.out.size;omega
   have hed:=HOK.out k v hlt hv
   have HA1:=fun(W1:World) (hb:Below wr.heap.size wr W1)=>HAT W1 (below_step hb HX.out) v.a hed.va
   have HA2:=fun(W1:World) (hb:Below wr.heap.size wr W1)=>HAT W1 (below_step hb HX.out) v.b hed.vb
   have HM2:=HMT v hed
   have HE:=Lib.hid (show wr.cell? ⟨eb,off+k*3+1,none⟩=some (.int .i64 v.a)∧wr.cell? ⟨eb,off+k*3+2,none⟩=some (.int .i64 v.b) from⟨e1,e2⟩)
   obtain⟨M,hM⟩: ∃M,M=meetB a b (findV vs v.a).at_ (findV vs v.b).at_:=⟨_,rfl⟩
   have HEQ:=Lib.hid hM.symm
   rw[←hM] at HM2
   clear hM
   generalize (findV vs v.a).at_=A at HA1 HM2
   generalize (findV vs v.b).at_=D at HA2 HM2
   clear hv e0 e1 e2 hed
   have hken:k<en:=by omega
   go_upto_region 4 with fail
   clear qx0 qx1 qx2 qx3 qx4 qx5 rx0 rx1 rx2
   have HY:=fun(w':World) (t:Below wr.heap.size wr w')=>Lib.hid (show w'.cell? ⟨w.heap.size,0,none⟩=some (.slice va vn vc)∧w'.cell? ⟨w.heap.size,1,none⟩=some (.slice (some ⟨eb,off,none⟩) en ec)∧w'.cell? ⟨eb,off+k*3+1,none⟩=some (.int .i64 v.a)∧w'.cell? ⟨eb,off+k*3+2,none⟩=some (.int .i64 v.b)∧w'.cell? ⟨w.heap.size+1,0,none⟩=some (.int .i64 a.x)∧w'.cell? ⟨w.heap.size+1,1,none⟩=some (.int .i64 a.y)∧w'.cell? ⟨w.heap.size+1+1,0,none⟩=some (.int .i64 b.x)∧w'.cell? ⟨w.heap.size+1+1,1,none⟩=some (.int .i64 b.y) from by
    obtain⟨d0,d1,d2,d3,d4,d5⟩:=(HC _ (HB.out.trans (t.mono HB.out.size))).out
    exact⟨d0,d1,(t.cell (p:=⟨eb,_,none⟩) hvw).trans HE.out.1,(t.cell (p:=⟨eb,_,none⟩) hvw).trans HE.out.2,d2,d3,d4,d5⟩)
   have HS0:=Lib.hid (Below.refl wr.heap.size wr).drew
   refine wp_region_noPanic ?_
   refine wp_region_par3 18 18 (by kernel_rfl) (by kernel_rfl) (by simp) (by omega) (by kernel_rfl) (by kernel_rfl) (fun w':World=>Below wr.heap.size wr w') ?_
   refine par3_read8 (v:= ?_) 0 (by simp only[zga,zgb,zgc];rfl) (by kernel_rfl) (by rfl) HS0.out ?_ (fun _ _ _ h=>h) ?_
   rotate_left
   ·(intro w9 hSw;obtain⟨y0,y1,y2,y3,y4,y5,y6,y7⟩:=(HY w9 hSw).out;clear hSw;go_simp;try with_reducible rfl)
   simp only[Act.put,zpa,zpb,zpc]
   refine par3_read8 (v:= ?_) 1 (by simp only[zga,zgb,zgc];rfl) (by kernel_rfl) (by rfl) HS0.out ?_ (fun _ _ _ h=>h) ?_
   rotate_left
   ·(intro w9 hSw;obtain⟨y0,y1,y2,y3,y4,y5,y6,y7⟩:=(HY w9 hSw).out;clear hSw;go_simp;try with_reducible rfl)
   simp only[Act.put,zpa,zpb,zpc]
   refine par3_read8 (v:= ?_) 2 (by simp only[zga,zgb,zgc];rfl) (by kernel_rfl) (by rfl) HS0.out ?_ (fun _ _ _ h=>h) ?_
   rotate_left
   ·(intro w9 hSw;obtain⟨y0,y1,y2,y3,y4,y5,y6,y7⟩:=(HY w9 hSw).out;clear hSw;go_simp;try with_reducible rfl)
   simp only[Act.put,zpa,zpb,zpc]
   refine par3_move (v:= ?_) 3 (by simp only[zga,zgb,zgc];rfl) (by kernel_rfl) (by rfl) ?_ (fun _ _ _ h=>h) ?_
   rotate_left
   ·(intro w9;go_simp;try with_reducible rfl)
   simp only[Act.put,zpa,zpb,zpc]
   refine par3_read8 (v:= ?_) 4 (by simp only[zga,zgb,zgc];rfl) (by kernel_rfl) (by rfl) HS0.out ?_ (fun _ _ _ h=>h) ?_
   rotate_left
   ·(intro w9 hSw;obtain⟨y0,y1,y2,y3,y4,y5,y6,y7⟩:=(HY w9 hSw).out;clear hSw;go_simp;try with_reducible rfl)
   simp only[Act.put,zpa,zpb,zpc]
   refine par3_move (v:= ?_) 5 (by simp only[zga,zgb,zgc];rfl) (by kernel_rfl) (by rfl) ?_ (fun _ _ _ h=>h) ?_
   rotate_left
   ·(intro w9;go_simp;try with_reducible rfl)
   simp only[Act.put,zpa,zpb,zpc]
   refine par3_move (v:= ?_) 6 (by simp only[zga,zgb,zgc];rfl) (by kernel_rfl) (by rfl) ?_ (fun _ _ _ h=>h) ?_
   rotate_left
   ·(intro w9;go_simp;try with_reducible rfl)
   simp only[Act.put,zpa,zpb,zpc]
   refine par3_move (v:= ?_) 7 (by simp only[zga,zgb,zgc];rfl) (by kernel_rfl) (by rfl) ?_ (fun _ _ _ h=>h) ?_
   rotate_left
   ·(intro w9;go_simp;try with_reducible rfl)
   simp only[Act.put,zpa,zpb,zpc]
   refine par3_read8 (v:= ?_) 8 (by simp only[zga,zgb,zgc];rfl) (by kernel_rfl) (by rfl) HS0.out ?_ (fun _ _ _ h=>h) ?_
   rotate_left
   ·(intro w9 hSw;obtain⟨y0,y1,y2,y3,y4,y5,y6,y7⟩:=(HY w9 hSw).out;clear hSw;go_simp;try with_reducible rfl)
   simp only[Act.put,zpa,zpb,zpc]
   refine par3_read8 (v:= ?_) 10 (by simp only[zga,zgb,zgc];rfl) (by kernel_rfl) (by rfl) HS0.out ?_ (fun _ _ _ h=>h) ?_
   rotate_left
   ·(intro w9 hSw;obtain⟨y0,y1,y2,y3,y4,y5,y6,y7⟩:=(HY w9 hSw).out;clear hSw;go_simp;try with_reducible rfl)
   simp only[Act.put,zpa,zpb,zpc]
   refine par3_move (v:= ?_) 11 (by simp only[zga,zgb,zgc];rfl) (by kernel_rfl) (by rfl) ?_ (fun _ _ _ h=>h) ?_
   rotate_left
   ·(intro w9;go_simp;try with_reducible rfl)
   simp only[Act.put,zpa,zpb,zpc]
   refine par3_read8 (v:= ?_) 12 (by simp only[zga,zgb,zgc];rfl) (by kernel_rfl) (by rfl) HS0.out ?_ (fun _ _ _ h=>h) ?_
   rotate_left
   ·(intro w9 hSw;obtain⟨y0,y1,y2,y3,y4,y5,y6,y7⟩:=(HY w9 hSw).out;clear hSw;go_simp;try with_reducible rfl)
   simp only[Act.put,zpa,zpb,zpc]
   refine par3_move (v:= ?_) 13 (by simp only[zga,zgb,zgc];rfl) (by kernel_rfl) (by rfl) ?_ (fun _ _ _ h=>h) ?_
   rotate_left
   ·(intro w9;go_simp;try with_reducible rfl)
   simp only[Act.put,zpa,zpb,zpc]
   refine par3_move (v:= ?_) 14 (by simp only[zga,zgb,zgc];rfl) (by kernel_rfl) (by rfl) ?_ (fun _ _ _ h=>h) ?_
   rotate_left
   ·(intro w9;go_simp;try with_reducible rfl)
   simp only[Act.put,zpa,zpb,zpc]
   refine par3_move (v:= ?_) 15 (by simp only[zga,zgb,zgc];rfl) (by kernel_rfl) (by rfl) ?_ (fun _ _ _ h=>h) ?_
   rotate_left
   ·(intro w9;go_simp;try with_reducible rfl)
   simp only[Act.put,zpa,zpb,zpc]
   refine par3_read8 (v:= ?_) 16 (by simp only[zga,zgb,zgc];rfl) (by kernel_rfl) (by rfl) HS0.out ?_ (fun _ _ _ h=>h) ?_
   rotate_left
   ·(intro w9 hSw;obtain⟨y0,y1,y2,y3,y4,y5,y6,y7⟩:=(HY w9 hSw).out;clear hSw;go_simp;try with_reducible rfl)
   simp only[Act.put,zpa,zpb,zpc]
   refine par3_nm (fun W8 hW8=> ?_)
   rw[←hW8] at HS0
   clear hW8
   refine par3_one 9 (by simp only[zga,zgb,zgc];rfl) (by kernel_rfl) (by rfl) ?_
   refine owp_call (by go_simp;constructor<;>rfl) ?_
   refine(HA1 _ HS0.out).out.mono ?_
   rintro x w8 ⟨rfl,hb8⟩
   have HT8:=Lib.hid (below_next HS0.out HS0.out.size hb8)
   refine⟨_,rfl,fun s _=>HT8.out, ?_⟩
   clear hb8
   simp only[Act.put,zpa,zpb,zpc]
   refine par3_one 17 (by simp only[zga,zgb,zgc];rfl) (by kernel_rfl) (by rfl) ?_
   refine owp_call (by go_simp;constructor<;>rfl) ?_
   refine(HA2 _ HT8.out).out.mono ?_
   rintro x w9 ⟨rfl,hb9⟩
   have HT9:=Lib.hid (below_next HT8.out HT8.out.size hb9)
   refine⟨_,rfl,fun s _=>HT9.out, ?_⟩
   clear hb9
   simp only[Act.put,zpa,zpb,zpc]
   refine par3_tail _ (by simp only[List.drop_succ_cons,List.drop_zero];rfl) (by kernel_rfl) ?_
   go_wp2_with fail
   refine(HM2 _).out.mono ?_
   rintro x w10 ⟨rfl,hb10⟩
   have HT10:=Lib.hid (below_next HT9.out HT9.out.size hb10)
   clear hb10
   have HB9:=Lib.hid (HB.out.trans (HT10.out.mono HB.out.size))
   cases M
   ·go_wp2_with fail
    refine NoPanic.normal ?_
    go_wp2_with fail
    go_roundw
    case rel=>
     refine⟨k+1,by omega,by go_num,fun y hy=> ?_,HB9.out⟩
     rw[take_snoc' HVK.out] at hy
     rcases List.mem_append.1 hy with hy|hy
     ·exact HA.out y hy
     ·simp at hy;subst hy;exact HEQ.out
    case measure=>simp[intOf];omega
   ·have F:=Lib.hid (show((es.take n).any fun f=>meetB a b (findV vs f.a).at_ (findV vs f.b).at_)=true from List.any_eq_true.2 ⟨v,List.mem_of_getElem? (i:=k) (by rw[List.getElem?_take,if_pos hlt];exact HVK.out),HEQ.out⟩)
    go_wp2_with fail
    refine NoPanic.normal ?_
    go_wp2_with fail
    go_ret
    exact⟨by rw[F.out];rfl,HW.out.trans (HB9.out.mono HW.out.size)⟩
  ·obtain rfl:k=n:=by omega
   have F:=Lib.hid (show((es.take k).any fun f=>meetB a b (findV vs f.a).at_ (findV vs f.b).at_)=false from by
    rw[List.any_eq_false]
    intro y hy
    rw[HA.out y hy]
    decide)
   go_wp2_with fail
   go_ret
   exact⟨by rw[F.out];rfl,bfn HW HB⟩
end Go.Proofs.Ythopjhifepijiaa
