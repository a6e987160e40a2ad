/- Lemmas on the way to the statement. -/
import Derived.Test.YthopjhifepijiaaJ9
set_option linter.unusedSimpArgs false
set_option linter.unusedVariables false
namespace Go.Proofs.Ythopjhifepijiaa
open Go.RowKit Go.Joins
open Go.Maps (Keyed)
theorem Try.infoRl:(Try.prog.info? 41).map (fun i=>(i.zero,i.size,i.bytes))=some (some (.agg #[.slice none 0 0, .slice none 0 0, .slice none 0 0]),3,72):=by kernel_rfl
theorem Try.infoIn9:(Try.prog.info? 3).map (fun i=>(i.zero,i.size,i.bytes))=some (some (.int .i64 0),1,8):=by kernel_rfl
theorem Try.infoOu:(Try.prog.info? 155).map (fun i=>(i.zero,i.size,i.bytes))=some (some (.agg #[.slice none 0 0, .int .u64 0, .int .u64 0, .int .u64 0, .int .u64 0, .int .i64 0]),6,64):=by kernel_rfl
def yF (y0 y1 y2 y3:Int):Nat→Value
 |0=> .int .u64 y0
 |1=> .int .u64 y1
 |2=> .int .u64 y2
 |_=> .int .u64 y3
theorem frA_find {p:PL} {L:List Hf} {h0:Hf} {Lt:List Hf} (h:L=h0::Lt):frA p L=(findE p.es h0.edge).a:=by
 subst h
 unfold frA findE
 show((p.es.find? (isE h0.edge)).map (·.a)).getD 0=_
 cases p.es.find? (isE h0.edge)<;>rfl
def outK (p:PL) (k:Nat):List (List Hf):=((ringsP p).take k).filter fun L=>decide (0<areaH p L)
def innK (p:PL) (k:Nat):List (List Hf):=((ringsP p).take k).filter fun L=> !decide (0<areaH p L)
def rmK (p:PL) (k:Nat):List RM:=⟨[],[],[]⟩::(outK p k).map fun L=>⟨L,[],[]⟩
def ouK (p:PL) (g:Int→Int) (k:Nat):List OU:=(outK p k).map fun L=>ouOf g (orOf p L)
theorem outK_pos {p:PL} {k:Nat} {L:List Hf} (hk:(ringsP p)[k]? =some L) (ha:0<areaH p L):outK p (k+1)=outK p k++[L]∧innK p (k+1)=innK p k:=by
 unfold outK innK
 rw[take_snoc' hk,List.filter_append,List.filter_append]
 simp[ha]
theorem outK_neg {p:PL} {k:Nat} {L:List Hf} (hk:(ringsP p)[k]? =some L) (ha: ¬0<areaH p L):outK p (k+1)=outK p k∧innK p (k+1)=innK p k++[L]:=by
 unfold outK innK
 rw[take_snoc' hk,List.filter_append,List.filter_append]
 simp[ha]
theorem rmK_pos {p:PL} {k:Nat} {L:List Hf} (h:outK p (k+1)=outK p k++[L]):rmK p (k+1)=rmK p k++[⟨L,[],[]⟩]:=by unfold rmK;rw[h];simp
theorem ouK_pos {p:PL} {g:Int→Int} {k:Nat} {L:List Hf} (h:outK p (k+1)=outK p k++[L]):ouK p g (k+1)=ouK p g k++[ouOf g (orOf p L)]:=by unfold ouK;rw[h];simp
theorem rmK_eq {p:PL} {k:Nat} (h:outK p (k+1)=outK p k):rmK p (k+1)=rmK p k:=by unfold rmK;rw[h]
theorem ouK_eq {p:PL} {g:Int→Int} {k:Nat} (h:outK p (k+1)=outK p k):ouK p g (k+1)=ouK p g k:=by unfold ouK;rw[h]
theorem VsIn.mono {w:World} {B B':Nat} {a:Option Addr} {n:Nat} {l:List Vx} (h:VsIn w B a n l) (k:B≤B'):VsIn w B' a n l:=⟨h.1,h.2.imp id (fun⟨b,off,e,hb,hs⟩=>⟨b,off,e,Nat.lt_of_lt_of_le hb k,hs⟩)⟩
theorem EsIn.mono {w:World} {B B':Nat} {a:Option Addr} {n:Nat} {l:List Ed} (h:EsIn w B a n l) (k:B≤B'):EsIn w B' a n l:=⟨h.1,h.2.imp id (fun⟨b,off,e,hb,hs⟩=>⟨b,off,e,Nat.lt_of_lt_of_le hb k,hs⟩)⟩
theorem FdIn.mono {w:World} {lo lo' bu bf mu n n':Nat} {up:Int→Option Int} (h:FdIn w lo bu bf mu n up) (k:n≤n') (kl:lo'≤lo):FdIn w lo' bu bf mu n' up:=⟨h.cu,h.cf,h.mp.mono k,⟨Nat.le_trans kl h.lu.1,h.lu.2⟩,⟨Nat.le_trans kl h.lf.1,h.lf.2⟩,Nat.le_trans kl h.lm,h.nu,h.nf,h.fit⟩
theorem UF.choose {es:List (Int × Int)} {up:Int→Option Int} (u:UF es up): ∃g:Int→Int,(∃rk,Fo rk up)∧ ∀a,Rt up a (g a):=by
 obtain⟨rk,fo⟩:=u.fo
 exact⟨fun a=>Classical.choose (rt_ex fo a),⟨rk,fo⟩,fun a=>Classical.choose_spec (rt_ex fo a)⟩
theorem outK_len (p:PL) (k:Nat):(outK p k).length≤(ringsP p).length:=by
 unfold outK
 have h1:=List.length_filter_le (fun L=>decide (0<areaH p L)) ((ringsP p).take k)
 rw[List.length_take] at h1
 omega
theorem innK_len (p:PL) (k:Nat):(innK p k).length≤(ringsP p).length:=by
 unfold innK
 have h1:=List.length_filter_le (fun L=> !decide (0<areaH p L)) ((ringsP p).take k)
 rw[List.length_take] at h1
 omega
theorem par3_three {P:Program} {ops:Array Oper} {Q:Exit→Act→World→Prop} {S:World→Prop} {n b f:Nat} {listed:Array Bool} {a:Act} {w:World} {o u v:Oper} (i j l:Nat) (hi:ops[i]? =some o) (hj:ops[j]? =some u) (hl:ops[l]? =some v) (hB:(decide (i<n)&&(decide (j<n)&&(decide (l<n)&&decide (Region.ready .any ops listed=[i,j,l]))))=true)
  (hw:Region.wanted o (yielded ops a.tmps)=true) (hv:Region.wanted u (yielded ops a.tmps)=true) (hx:Region.wanted v (yielded ops a.tmps)=true)
  (h:Owp P o a w (fun a' w'=>(S w→i<b→S w')∧wpPar3 P ops Q S n b f (listed.setIfInBounds i true) a' w') Q) (k:Owp P u a w (fun a' w'=>(S w→j<b→S w')∧wpPar3 P ops Q S n b f (listed.setIfInBounds j true) a' w') Q) (m:Owp P v a w (fun a' w'=>(S w→l<b→S w')∧wpPar3 P ops Q S n b f (listed.setIfInBounds l true) a' w') Q):wpPar3 P ops Q S n b (f+1) listed a w:=fun T inv hb=>by
 simp only[Bool.and_eq_true,decide_eq_true_eq] at hB
 refine⟨fun h1=>(by rw[hB.2.2.2] at h1;cases h1),fun x hx0=> ?_⟩
 have hx1:=hx0
 rw[hB.2.2.2] at hx0
 have hx0:x=i∨x=j∨x=l:=by simpa using hx0
 rcases hx0 with rfl|rfl|rfl
 ·have hh:wpOp P ops Q x (fun a' w'=>(S w→x<b→S w')∧wpPar3 P ops Q S n b f (listed.setIfInBounds x true) a' w') a w:=by
   unfold wpOp
   simp only[hi,hw,if_true]
   exact .inl h.out
  exact wpOp_mono (fun a' w' h'=>⟨fun s e=>h'.1 s (by simpa using e),h'.2 T (inv.set hx1 hB.1) hb⟩) hh
 ·have hh:wpOp P ops Q x (fun a' w'=>(S w→x<b→S w')∧wpPar3 P ops Q S n b f (listed.setIfInBounds x true) a' w') a w:=by
   unfold wpOp
   simp only[hj,hv,if_true]
   exact .inl k.out
  exact wpOp_mono (fun a' w' h'=>⟨fun s e=>h'.1 s (by simpa using e),h'.2 T (inv.set hx1 hB.2.1) hb⟩) hh
 ·have hh:wpOp P ops Q x (fun a' w'=>(S w→x<b→S w')∧wpPar3 P ops Q S n b f (listed.setIfInBounds x true) a' w') a w:=by
   unfold wpOp
   simp only[hl,hx,if_true]
   exact .inl m.out
  exact wpOp_mono (fun a' w' h'=>⟨fun s e=>h'.1 s (by simpa using e),h'.2 T (inv.set hx1 hB.2.2.1) hb⟩) hh
theorem rmI_inner_len {p:PL} (g:Int→Int): ∀j i,(rmAt (rmI p g j) i).inner.length≤j
 |0,i=>by
  have e:(rmAt (rmI p g 0) i).inner=[]:=by
   unfold rmAt rmI base17
   simp only[List.take_zero,List.foldl_nil]
   rw[List.getD_eq_getElem?_getD]
   rcases i with _|i
   ·rfl
   ·rw[List.getElem?_cons_succ,List.getElem?_map]
    cases (outersP p)[i]? <;>rfl
  rw[e];simp
 |j+1,i=>by
  by_cases h:j<(innersP p).length
  ·rw[rmI_succ (List.getElem?_eq_getElem h)]
   have ih:=rmI_inner_len (p:=p) g j i
   have hx:idxI p g (innersP p)[j]<(rmI p g j).length:=by rw[rmI_len];unfold idxI;exact(idx_lt g _ _).1
   rw[rmAt_addI _ _ _ _ hx]
   split
   ·rename_i e
    subst e
    simp
    omega
   ·omega
  ·have e:rmI p g (j+1)=rmI p g j:=by unfold rmI;rw[List.take_of_length_le (by omega),List.take_of_length_le (by omega)]
   rw[e]
   have:=rmI_inner_len (p:=p) g j i
   omega
theorem rmV_alone_len {p:PL} (g:Int→Int) (no:Int): ∀j i,(rmAt (rmV p g no j) i).alone.length≤j
 |0,i=>by
  have key: ∀k,(rmAt (rmI p g k) i).alone=[]:=by
   intro k
   induction k with
   |zero=>
    unfold rmAt rmI base17
    simp only[List.take_zero,List.foldl_nil]
    rw[List.getD_eq_getElem?_getD]
    rcases i with _|i
    ·rfl
    ·rw[List.getElem?_cons_succ,List.getElem?_map]
     cases (outersP p)[i]? <;>rfl
   |succ k ih=>
    by_cases h:k<(innersP p).length
    ·rw[rmI_succ (List.getElem?_eq_getElem h)]
     have hx:idxI p g (innersP p)[k]<(rmI p g k).length:=by rw[rmI_len];unfold idxI;exact(idx_lt g _ _).1
     rw[rmAt_addI _ _ _ _ hx]
     split<;>exact ih
    ·have e:rmI p g (k+1)=rmI p g k:=by unfold rmI;rw[List.take_of_length_le (by omega),List.take_of_length_le (by omega)]
     rw[e]
     exact ih
  have e:rmV p g no 0=rmI p g (innersP p).length:=rfl
  rw[e,key];simp
 |j+1,i=>by
  have ih:=rmV_alone_len (p:=p) g no j i
  by_cases h:j<p.vs.length
  ·have hv:=List.getElem?_eq_getElem h
   cases hd:degB p.es (p.vs[j]).id
   ·rw[rmV_no hv hd];omega
   ·rw[rmV_yes hv hd]
    have hx:idxA p g no (p.vs[j]).at_<(rmV p g no j).length:=by rw[rmV_len];unfold idxA;exact(idx_lt g _ _).1
    rw[rmAt_addA _ _ _ _ hx]
    split
    ·rename_i e
     subst e
     simp
     omega
    ·omega
  ·have e:rmV p g no (j+1)=rmV p g no j:=by unfold rmV;rw[List.take_of_length_le (by omega),List.take_of_length_le (by omega)]
   rw[e]
   omega
def vxF9 (v:Vx):Nat→Value
 |0=> .int .i64 v.id
 |1=> .int .i64 v.at_.x
 |_=> .int .i64 v.at_.y
abbrev nilV:Nat→Value:=fun _=> .slice none 0 0
set_option maxRecDepth 100000 in
set_option maxHeartbeats 40000000 in
theorem realms_any {w:World} {B vn vc en ec:Nat} {va ea:Option Addr} {p:PL} (r:RightP p) (hv:VsIn w B va vn p.vs) (he:EsIn w B ea en p.es) (hB:B≤w.heap.size) (hec:en≤ec) (hfit:FitPL p):
  Calls Try.prog 38 #[.agg #[.slice va vn vc, .slice ea en ec]] w fun e w'=> ∃(g:Int→Int) (a:Option Addr) (n c:Nat) (ra:Option Addr) (rn rc:Nat),e= .returned (.tuple #[.slice a n c, .slice ra rn rc])∧PieceFn p g∧(∀id,IsV p id→g id≠0)∧RlKp w.heap.size w' a n (realmsP p g 0)∧OuIn w' w'.heap.size ra rn ((orsP p).map (ouOf g))∧Below w.heap.size w w':=by
 have HRT:=fun(W:World) (hb:Below w.heap.size w W)=>Lib.hid (show Calls Try.prog 12 #[.agg #[.slice va vn vc, .slice ea en ec]] W fun e w'=>e= .returned (.bool true)∧Below W.heap.size W w' from by
  have:=right_any (w:=W) (vc:=vc) (hv.below (hb.mono hB)) (he.below (hb.mono hB)) (Nat.le_trans hB hb.size) (by have:=r.nv;have:=hv.1;omega) (by have:=r.ne;have:=he.1;omega) hec hfit
  rw[rightB_iff.2 r] at this
  exact this)
 have HPC:=fun(W:World) (hb:Below w.heap.size w W)=>Lib.hid (pieces_any (w:=W) (vc:=vc) (va:=va) (vn:=vn) (ec:=ec) (he.below (hb.mono hB)) (Nat.le_trans hB hb.size) (by have:=r.ne;have:=he.1;omega) hfit)
 have HRG:=fun(W:World) (hb:Below w.heap.size w W)=>Lib.hid (spinRings_any (w:=W) (vc:=vc) r (hv.below (hb.mono hB)) (he.below (hb.mono hB)) (Nat.le_trans hB hb.size) hec hfit)
 have HVI:=Lib.hid hv
 have HEI:=Lib.hid he
 have HR:=Lib.hid r
 have HF:=Lib.hid hfit
 have hn1:vn≤512:=by have:=r.nv;have:=hv.1;omega
 have hn2:en≤1024:=by have:=r.ne;have:=he.1;omega
 obtain⟨i0,hi,hz0,hz1,hz2⟩:=info_parts Try.infoRl
 obtain⟨j0,hj,hj0,hj1,hj2⟩:=info_parts Try.infoOu
 obtain⟨k0,hk,hk0,hk1,hk2⟩:=info_parts Try.infoHs
 obtain⟨l0,hl,hl0,hl1,hl2⟩:=info_parts Try.infoIn9
 clear hv he r hfit
 go_enter Try.func38,Try.ntmps38
 go_wp2_with fail
 first|refine wp_name (fun W hW=> ?_)|refine calls_name (fun W hW=> ?_)
 have HW:Hid (Below w.heap.size w W):=Lib.hid (by rw[←hW];repeat (first|exact Below.refl _ _|refine below_alloc ?_))
 have HWs:Hid (W.heap.size=w.heap.size+1):=Lib.hid (by rw[←hW];simp)
 have HBW:Hid (W.heap.size≤W.heap.size):=Lib.hid (by have:=HWs.out;omega)
 have HC:=fun(W1:World) (hb:Below (W.heap.size) W W1)=>Lib.hid (show W1.cell? ⟨w.heap.size,0,none⟩=some (.slice va vn vc)∧W1.cell? ⟨w.heap.size,1,none⟩=some (.slice ea en ec) from by have hs:=HWs.out;refine⟨?_, ?_⟩<;>(refine(hb.cell (by dsimp only;omega)).trans ?_;rw[←hW];clear hW;go_simp))
 have HB:=Lib.hid (Below.refl (W.heap.size) W)
 clear hW
 have HZ:=fun(W1:World) (hb:W.heap.size≤W1.heap.size)=>Lib.hid (show w.heap.size<W1.heap.size from by have:=HWs.out;omega)
 obtain⟨qx0,qx1⟩:=(HC _ HB.out).out
 have rx0:=(HZ _ HB.out.size).out
 refine((HRT _ HW.out).out).mono ?_
 rintro e w1 ⟨rfl,hb2⟩
 have HB:=bnx HB HBW hb2
 clear qx0 qx1 rx0
 obtain⟨qx0,qx1⟩:=(HC _ HB.out).out
 clear hb2
 have rx0:=(HZ _ HB.out.size).out
 go_wp2_with fail
 have HX1:=Lib.hid (HW.out.trans (HB.out.mono HW.out.size))
 have HX1W:=Lib.hid HB.out.size
 refine(HPC _ HX1.out).out.mono ?_
 rintro e w2 ⟨bu,bf,mu,up,rfl,hfd,huf,hb2⟩
 have HB:=Lib.hid (below_next HB.out (Nat.le_trans HBW.out HB.out.size) hb2)
 have HX2:=Lib.hid (below_step hb2 HX1.out)
 simp only[fdV]
 have HFD:=Lib.hid hfd
 have HUF:=Lib.hid huf
 clear hfd huf hb2
 clear qx0 qx1 rx0
 obtain⟨qx0,qx1⟩:=(HC _ HB.out).out
 have rx0:=(HZ _ HB.out.size).out
 go_wp2_with fail
 have HX3:=Lib.hid (below_step (below_alloc (o:= .cells #[.slice none 0 0, .slice none 0 0, .slice none 0 0] 41) (Below.refl w2.heap.size w2)) HX2.out)
 refine(HRG _ HX3.out).out.mono ?_
 rintro e Wc ⟨ra,rc,rfl,hrgo,hb3⟩
 have HLO:=Lib.hid (show(w2.alloc (.cells #[.slice none 0 0, .slice none 0 0, .slice none 0 0] 41)).heap.size=w2.heap.size+1 from by simp)
 have HRO:=Lib.hid (show RgOut (w2.heap.size+1) Wc ra (ringsP p) from HLO.out▸hrgo)
 have HX4:=Lib.hid (below_step hb3 HX3.out)
 obtain⟨g,hfo,hg⟩:=HUF.out.choose
 have HPF:=Lib.hid (HUF.out.piece_fn hg)
 have HNZ:=Lib.hid (HUF.out.no_zero HR.out hg)
 have HFC:=Lib.hid (HFD.out.below (Below.refl w2.heap.size w2))
 have HS0:Hid (RS w Wc Wc g (w2.heap.size+1) w2.heap.size bu bf mu Wc.heap.size (.slice (some ⟨w2.heap.size,0,none⟩) 1 1) (.slice none 0 0) (.slice none 0 0) (rmK p 0) (ouK p g 0) (innK p 0) nilV nilV nilV (fun _=>[]) nilV []):=Lib.hid (by
  have f1:=HFD.out
  have h1:=hb3.size
  have h0:=HLO.out
  have hx:=HX1.out.size
  have hmlt:=f1.mp.lt
  have bl:Below w2.heap.size w2 Wc:=below_step hb3 (below_alloc (Below.refl _ _))
  have row:=ownsRow_touch (own_alloc w2 0 3 1 41 [.slice none 0 0, .slice none 0 0, .slice none 0 0] (Nat.zero_le _) rfl (by decide)) (Touch.of_below (F:=[]) hb3) (by simp)
  refine⟨⟨⟨by have:=f1.lu.1;omega,by have:=f1.lf.1;omega,by have:=f1.lm;omega,by have:=HX2.out.size;omega⟩,⟨by have:=f1.lu.2;omega,by have:=f1.lf.2;omega,by omega,by omega⟩,⟨by have:=f1.lu.2;omega,by have:=f1.lf.2;omega,by omega,f1.nu,f1.nf⟩,by omega⟩,RlM.start (Nat.le_refl _) row,fun b hb=> ?_,OuM.nil _ _ _ _,World.ownsRow_nil _ _ _ _,HdRs.nil _ _ _,fun b i c hb=>(by cases hb),⟨up,(f1.below bl).mono hn2 hx,hfo,hg⟩,Touch.refl _ _⟩
  cases hb
  exact .inl rfl)
 have HCW:=fun(wr:World) (t:Touch [mu,w2.heap.size] Wc wr)=>Lib.hid (show wr.cell? ⟨w.heap.size,0,none⟩=some (.slice va vn vc)∧wr.cell? ⟨w.heap.size,1,none⟩=some (.slice ea en ec)∧Below w.heap.size w wr from by
  have hc:=(HC _ HB.out).out
  have f1:=HFD.out.lm
  have s1:=HX1.out.size
  have s2:=HX2.out.size
  have s4:=hb3.size
  have s5:=HLO.out
  have s6:=HWs.out
  have s7:W.heap.size≤w1.heap.size:=HX1W.out
  have no:w.heap.size∉ [mu,w2.heap.size]:=by simp;omega
  have bl:Below w2.heap.size w2 Wc:=below_step hb3 (below_alloc (Below.refl _ _))
  exact⟨((t.cell (p:=⟨w.heap.size,0,none⟩) (by show w.heap.size<Wc.heap.size;omega) no).trans (bl.cell (p:=⟨w.heap.size,0,none⟩) (by show w.heap.size<w2.heap.size;omega))).trans hc.1,((t.cell (p:=⟨w.heap.size,1,none⟩) (by show w.heap.size<Wc.heap.size;omega) no).trans (bl.cell (p:=⟨w.heap.size,1,none⟩) (by show w.heap.size<w2.heap.size;omega))).trans hc.2,
   HX4.out.trans (t.below HX4.out.size (by intro b hb;simp at hb;omega))⟩)
 have HMU:=Lib.hid (show mu<w2.heap.size+1∧w2.heap.size+1≤Wc.heap.size from by have:=HFD.out.mp.lt;have:=hb3.size;have:=HLO.out;omega)
 clear hrgo hb3 hfo hg
 clear qx0 qx1 rx0
 have HRN:=Lib.hid HR.out.rings_few
 go_wp2_with fail
 go_loopw [5,6,7,41] (fun o r' v i wr=> ∃(k:Nat) (vo vr vi:Value) (H Y:Nat→Value) (Zn:List Value),k≤(ringsP p).length∧i= .int .i64 k∧vo=o∧vr=r'∧vi=v∧RS w Wc wr g (w2.heap.size+1) w2.heap.size bu bf mu Wc.heap.size vo vr vi (rmK p k) (ouK p g k) (innK p k) H nilV nilV (fun _=>[]) Y Zn) (fun _ _ _ i _=>(ringsP p).length - (intOf i).toNat)
 case atStart=>exact⟨0,_,_,_,_,_,_,Nat.zero_le _,rfl,rfl,rfl,rfl,HS0.out⟩
 case round=>
  clear HS0
  obtain⟨k,vo,vr,vi,H,Y,Zn,hkN,rfl,rfl,rfl,rfl,hI⟩:=hrel
  have HI:=Lib.hid hI
  obtain⟨c0,c1,hbw⟩:=(HCW _ hI.tch).out
  have HBW2:=Lib.hid hbw
  clear hI hbw
  by_cases hlt:k<(ringsP p).length
  ·obtain⟨L,hL⟩: ∃L,(ringsP p)[k]? =some L:=⟨_,List.getElem?_eq_getElem hlt⟩
   obtain⟨rb,rfl,hr1,hr2,hrc⟩:=HRO.out.resolve_left (fun e=>by rw[e] at hlt;simp at hlt)
   obtain⟨g1,cc1,hcc,hg1,hg2,hat⟩:=hrc k L hL
   have hnb: ∀q,w2.heap.size+1≤q→q∉ [mu,w2.heap.size]:=fun q hq hm=>by have:=HMU.out;simp at hm;omega
   have hcr:=(HI.out.tch.cell (p:=⟨rb,k,none⟩) hr2 (hnb _ hr1)).trans hcc
   have hat2:=hat.touch HI.out.tch hg2 (hnb _ hg1)
   obtain⟨x0,m0,hring⟩:=HR.out.rings.1 L (List.mem_of_getElem? hL)
   have HMEM:=Lib.hid (fun x hx=>(hring.mem x hx).1)
   have HLN:=Lib.hid hring.ne
   have HLK:=Lib.hid hL
   have HLT:=Lib.hid hlt
   have hkb:k≤2048:=by have:=HRN.out;have:=HR.out.ne;omega
   have hsz:=HI.out.tch.size
   have HHD:=Lib.hid (show HdR (fun g=>w2.heap.size+1≤g) Wc.heap.size wr (.slice (some ⟨g1,0,none⟩) L.length cc1) L from .inr ⟨g1,cc1,rfl,hg1,hg2,hat2⟩)
   have HLL:=Lib.hid (show L.length≤2048 from by
    have h1:=nodup_len hring.nd (fun y hy=>HMEM.out y hy)
    rw[halves_len] at h1
    have:=HR.out.ne
    omega)
   have HPT:=Lib.hid (points_any (w:=wr) (B:=wr.heap.size) (vc:=vc) (c:=cc1) ((HVI.out.below (HBW2.out.mono hB)).mono (Nat.le_trans hB HBW2.out.size)) ((HEI.out.below (HBW2.out.mono hB)).mono (Nat.le_trans hB HBW2.out.size)) (show HsIn wr wr.heap.size (some ⟨g1,0,none⟩) L.length L from⟨rfl, .inr ⟨g1,0,rfl,by omega,hat2⟩⟩) (Nat.le_refl _) (by omega) (by omega) hec HF.out (by have:=HLL.out;omega))
   have HG1:=Lib.hid (show w2.heap.size+1≤g1∧g1<Wc.heap.size from⟨hg1,hg2⟩)
   have hrbw:rb<wr.heap.size:=by omega
   have hps:w.heap.size<wr.heap.size:=by have:=HMU.out;have:=HX2.out.size;omega
   clear hL hcc hat hat2 hring hrc
   go_wp2_with fail
   refine HPT.out.mono ?_
   rintro e w4 (⟨a1,c4,hp1,hp2,rfl,hown,hb4⟩|⟨hno,rfl,hb4⟩)
   case inr=>
    have h1:=rightB_iff.2 HR.out
    have h2:=known_of HMEM.out
    rcases hno with h|h
    ·rw[h] at h1;cases h1
    ·rw[h] at h2;cases h2
   rw[known_lines hp2] at hown
   have I4:=Lib.hid (HI.out.below hb4)
   have HB4:=Lib.hid hb4
   have HLR:=Lib.hid (ownsRow_le hown hsz)
   have HLI:=Lib.hid (HR.out.lines_in HMEM.out)
   have HSM:=Lib.hid (sum_any (c:=c4) (lnIn_of_own hown (by simp)) (Nat.le_refl _) HLI.out (by have:=HLL.out;omega))
   have HAF:=Lib.hid (area_fits HLI.out (by rw[List.length_map];have:=HLL.out;omega))
   clear hp1 hp2 hown hb4 hcr hrbw
   obtain⟨A,hA⟩: ∃A,A=areaL (L.map (lineH p)):=⟨_,rfl⟩
   rw[←hA] at HSM HAF
   have HSG:=fun W=>Lib.hid (signW_any A W HAF.out)
   have HAA:=Lib.hid (show A=areaH p L from hA)
   clear hA
   obtain⟨y0,hy0⟩: ∃y,y=wrd A 0:=⟨_,rfl⟩
   obtain⟨y1,hy1⟩: ∃y,y=wrd A 1:=⟨_,rfl⟩
   obtain⟨y2,hy2⟩: ∃y,y=wrd A 2:=⟨_,rfl⟩
   obtain⟨y3,hy3⟩: ∃y,y=wrd A 3:=⟨_,rfl⟩
   rw[←hy0, ←hy1, ←hy2, ←hy3] at HSM HSG
   have HYY:=Lib.hid (show y0=wrd A 0∧y1=wrd A 1∧y2=wrd A 2∧y3=wrd A 3 from⟨hy0,hy1,hy2,hy3⟩)
   clear hy0 hy1 hy2 hy3 hsz c0 c1 hps
   obtain⟨c0,c1,hbw⟩:=(HCW _ I4.out.tch).out
   clear hbw
   go_wp2_with fail
   refine HSM.out.mono ?_
   rintro e w5 ⟨rfl,hb5⟩
   have I5:=Lib.hid (I4.out.below hb5)
   have HB45:=Lib.hid (below_step hb5 HB4.out)
   have HLR5:=Lib.hid (ownsRow_touch HLR.out (Touch.of_below (F:=[]) hb5) (by simp))
   clear hb5 c0 c1
   go_wp2_with fail
   refine(HSG _).out.mono ?_
   rintro e w6 ⟨rfl,hb6⟩
   have HB6:=Lib.hid (below_step hb6 (below_alloc (Below.refl w5.heap.size w5)))
   have I6:=Lib.hid (I5.out.below HB6.out)
   have HLR6:=Lib.hid (ownsRow_touch HLR5.out (Touch.of_below (F:=[]) HB6.out) (by simp))
   have hq0:w6.cell? ⟨w5.heap.size,0,none⟩=some (.int .u64 y0):=(hb6.cell (p:=⟨w5.heap.size,_,none⟩) (by simp)).trans (by simp[World.cell?_alloc_new])
   have hq1:w6.cell? ⟨w5.heap.size,1,none⟩=some (.int .u64 y1):=(hb6.cell (p:=⟨w5.heap.size,_,none⟩) (by simp)).trans (by simp[World.cell?_alloc_new])
   have hq2:w6.cell? ⟨w5.heap.size,2,none⟩=some (.int .u64 y2):=(hb6.cell (p:=⟨w5.heap.size,_,none⟩) (by simp)).trans (by simp[World.cell?_alloc_new])
   have hq3:w6.cell? ⟨w5.heap.size,3,none⟩=some (.int .u64 y3):=(hb6.cell (p:=⟨w5.heap.size,_,none⟩) (by simp)).trans (by simp[World.cell?_alloc_new])
   have HQQ:=Lib.hid (show w6.cell? ⟨w5.heap.size,0,none⟩=some (.int .u64 y0)∧w6.cell? ⟨w5.heap.size,1,none⟩=some (.int .u64 y1)∧w6.cell? ⟨w5.heap.size,2,none⟩=some (.int .u64 y2)∧w6.cell? ⟨w5.heap.size,3,none⟩=some (.int .u64 y3)∧w5.heap.size<w6.heap.size from⟨hq0,hq1,hq2,hq3,by have:=hb6.size;simp at this;omega⟩)
   have HQR:=Lib.hid (show w6.rowIs w5.heap.size 36 4 (yF y0 y1 y2 y3) from rowIs_touch (World.rowIs_alloc w5 #[.int .u64 y0, .int .u64 y1, .int .u64 y2, .int .u64 y3] 36 (yF y0 y1 y2 y3) (fun i hi=>by rcases i with _|_|_|_|i<;>first|rfl|(simp at hi;omega))) (Touch.of_below (F:=[]) hb6) (by simp))
   have HH6:=Lib.hid (HHD.out.touch (Touch.of_below (F:=[]) (show Below wr.heap.size wr w6 from below_step HB6.out HB45.out)) HI.out.tch.size (by simp))
   clear hb6 hq0 hq1 hq2 hq3
   by_cases hpos:0<A
   ·have hsg:A.sign=1:=Int.sign_eq_one_of_pos hpos
    obtain⟨ho1,ho2⟩:=outK_pos HLK.out (by rw[←HAA.out];exact hpos)
    have HO1:=Lib.hid ho1
    have HO2:=Lib.hid ho2
    have HIL:=Lib.hid (outK_len p k)
    clear ho1 ho2 hpos
    rw[hsg] at*
    obtain⟨h0,Lt,hL0⟩: ∃h0 Lt,L=h0::Lt:=by
     cases L with
     |nil=>exact absurd rfl HLN.out
     |cons a b=>exact⟨a,b,rfl⟩
    obtain⟨e,he⟩: ∃e,e=findE p.es h0.edge:=⟨_,rfl⟩
    have HEE:=Lib.hid he
    have HL0:=Lib.hid hL0
    obtain⟨p0,p1,hbw⟩:=(HCW _ I6.out.tch).out
    have hgr0:w6.cell? ⟨g1,0,none⟩=some (.int .i64 h0.edge):=by
     rcases HH6.out with ⟨hn, -⟩|⟨q,cq,hq, -, -,hs⟩
     ·rw[hL0] at hn;cases hn
     ·cases hq
      exact(hs 0 h0 (by rw[hL0];rfl)).1
    have HED:=fun(W:World) (hb:Below w6.heap.size w6 W)=>Lib.hid (show Calls Try.prog 71 #[.agg #[.slice va vn vc, .slice ea en ec], .int .i64 h0.edge] W fun x w'=>x= .returned (.tuple #[.agg #[.int .i64 e.id, .int .i64 e.a, .int .i64 e.b], .bool (hasE p.es h0.edge)])∧Below W.heap.size W w' from by
     rw[he]
     have h9:=hbw.size
     exact edge_any (ec:=ec) (HEI.out.below ((hbw.trans (hb.mono h9)).mono hB)) (Nat.le_trans hB (Nat.le_trans h9 hb.size)) (by omega) (.slice va vn vc) ⟨_,_,_,rfl⟩ h0.edge)
    have HYP:=Lib.hid (show w6.cell? ⟨w.heap.size,0,none⟩=some (.slice va vn vc)∧w6.cell? ⟨w.heap.size,1,none⟩=some (.slice ea en ec)∧w6.cell? ⟨g1,0,none⟩=some (.int .i64 h0.edge)∧w.heap.size<w6.heap.size∧g1<w6.heap.size from⟨p0,p1,hgr0,by have:=HMU.out;have:=HX2.out.size;have:=I6.out.tch.size;omega,by have:=HG1.out;have:=I6.out.tch.size;omega⟩)
    have hL2:0<L.length:=by rw[hL0];simp
    have hL1:(0:Int)<(L.length:Int):=by omega
    clear he hL0 p0 p1 hbw hgr0
    go_upto_region 14 with fail
    go_cut [13,14] (fun p13 _ wx=> ∃b13,p13= .pointer (some ⟨b13,0,none⟩)∧wx.rowIs b13 63 3 (edF e)∧w6.heap.size≤b13∧Below w6.heap.size w6 wx)
    case first=>
     go_wp2_with fail
     have HY:=fun(w':World) (t:Below w6.heap.size w6 w')=>Lib.hid (show w'.cell? ⟨w.heap.size,0,none⟩=some (.slice va vn vc)∧w'.cell? ⟨w.heap.size,1,none⟩=some (.slice ea en ec)∧w'.cell? ⟨g1,0,none⟩=some (.int .i64 h0.edge) from
      ⟨(t.cell (p:=⟨w.heap.size,0,none⟩) HYP.out.2.2.2.1).trans HYP.out.1,(t.cell (p:=⟨w.heap.size,1,none⟩) HYP.out.2.2.2.1).trans HYP.out.2.1,(t.cell (p:=⟨g1,0,none⟩) HYP.out.2.2.2.2).trans HYP.out.2.2.1⟩)
     have HS0:=Lib.hid (Below.refl w6.heap.size w6).drew
     refine wp_region_noPanic ?_
     refine wp_region_par3 11 11 (by kernel_rfl) (by kernel_rfl) (by simp) (by omega) (by kernel_rfl) (by kernel_rfl) (fun w':World=>Below w6.heap.size w6 w') ?_
     refine par3_read (v:= ?_) 0 (by simp only[zga,zgb,zgc];rfl) (by kernel_rfl) (by rfl) HS0.out ?_ (fun _ _ _ h=>h) ?_
     rotate_left
     ·(intro w9 hSw;first|(obtain⟨y0,y1,y2,y3⟩:=(HY w9 hSw).out;clear hSw;go_simp;try with_reducible rfl;done)|(obtain⟨y0,y1,y2⟩:=(HY w9 hSw).out;clear hSw;go_simp;try with_reducible rfl))
     simp only[Act.put,zpa,zpb,zpc]
     refine par3_move (v:= ?_) 1 (by simp only[zga,zgb,zgc];rfl) (by kernel_rfl) (by rfl) ?_ (fun _ _ _ h=>h) ?_
     rotate_left
     ·(intro w9;go_simp;try with_reducible rfl)
     simp only[Act.put,zpa,zpb,zpc]
     refine par3_move (v:= ?_) 2 (by simp only[zga,zgb,zgc];rfl) (by kernel_rfl) (by rfl) ?_ (fun _ _ _ h=>h) ?_
     rotate_left
     ·(intro w9;go_simp;try with_reducible rfl)
     simp only[Act.put,zpa,zpb,zpc]
     refine par3_move (v:= ?_) 3 (by simp only[zga,zgb,zgc];rfl) (by kernel_rfl) (by rfl) ?_ (fun _ _ _ h=>h) ?_
     rotate_left
     ·(intro w9;go_simp;try with_reducible rfl)
     simp only[Act.put,zpa,zpb,zpc]
     refine par3_read (v:= ?_) 4 (by simp only[zga,zgb,zgc];rfl) (by kernel_rfl) (by rfl) HS0.out ?_ (fun _ _ _ h=>h) ?_
     rotate_left
     ·(intro w9 hSw;first|(obtain⟨y0,y1,y2,y3⟩:=(HY w9 hSw).out;clear hSw;go_simp;try with_reducible rfl;done)|(obtain⟨y0,y1,y2⟩:=(HY w9 hSw).out;clear hSw;go_simp;try with_reducible rfl))
     simp only[Act.put,zpa,zpb,zpc]
     refine par3_nm (fun W8 hW8=> ?_)
     rw[←hW8] at HS0
     clear hW8
     refine par3_two 5 9 (by simp only[zga,zgb,zgc];rfl) (by simp only[zga,zgb,zgc];rfl) (by kernel_rfl) (by rfl) (by rfl) ?_ ?_
     ·refine owp_call (by go_simp;constructor<;>rfl) ?_
      refine(HED _ HS0.out).out.mono ?_
      rintro x W9 ⟨rfl,hb9⟩
      have HS9:=Lib.hid (below_next HS0.out HS0.out.size hb9)
      refine⟨_,rfl,fun _ _=>HS9.out, ?_⟩
      clear hb9
      simp only[Act.put,zpa,zpb,zpc]
      refine par3_move (v:= ?_) 6 (by simp only[zga,zgb,zgc];rfl) (by kernel_rfl) (by rfl) ?_ (fun _ _ _ h=>h) ?_
      rotate_left
      ·(intro w9;go_simp;try with_reducible rfl)
      simp only[Act.put,zpa,zpb,zpc]
      refine par3_move (v:= ?_) 7 (by simp only[zga,zgb,zgc];rfl) (by kernel_rfl) (by rfl) ?_ (fun _ _ _ h=>h) ?_
      rotate_left
      ·(intro w9;go_simp;try with_reducible rfl)
      simp only[Act.put,zpa,zpb,zpc]
      refine par3_move (v:= ?_) 8 (by simp only[zga,zgb,zgc];rfl) (by kernel_rfl) (by rfl) ?_ (fun _ _ _ h=>h) ?_
      rotate_left
      ·(intro w9;go_simp;try with_reducible rfl)
      simp only[Act.put,zpa,zpb,zpc]
      refine par3_one 9 (by simp only[zga,zgb,zgc];rfl) (by kernel_rfl) (by rfl) ?_
      refine owp_val (v:= ?_) (w1:= ?_) ?_ ?_
      rotate_left 2
      ·(go_simp;constructor<;>rfl)
      refine⟨fun s _=>s.alloc s.size _, ?_⟩
      simp only[Act.put,zpa,zpb,zpc]
      refine par3_one 10 (by simp only[zga,zgb,zgc];rfl) (by kernel_rfl) (by rfl) ?_
      refine owp_skip (w1:= ?_) ?_ ?_
      rotate_left
      ·(go_simp;first|rfl|(constructor<;>rfl))
      refine⟨fun s _=>HS9.out.alloc HS9.out.size _, ?_⟩
      simp only[Act.put,zpa,zpb,zpc]
      refine par3_tail _ (by simp only[List.drop_succ_cons,List.drop_zero];rfl) (by kernel_rfl) ?_
      go_wp2_with fail
      refine NoPanic.normal ?_
      go_step
      go_step
      go_meet
      exact⟨_,rfl,World.rowIs_alloc W9 #[.int .i64 e.id, .int .i64 e.a, .int .i64 e.b] 63 (edF e) (fun i hi=>by rcases i with _|_|_|i<;>first|rfl|(simp at hi;omega)),HS9.out.size,HS9.out.alloc HS9.out.size _⟩
     ·refine owp_val (v:= ?_) (w1:= ?_) ?_ ?_
      rotate_left 2
      ·(go_simp;constructor<;>rfl)
      refine⟨fun s _=>s.alloc s.size _, ?_⟩
      simp only[Act.put,zpa,zpb,zpc]
      have HR9:=Lib.hid (World.rowIs_alloc W8 #[.int .i64 0, .int .i64 0, .int .i64 0] 63 (edF ⟨0,0,0⟩) (fun i hi=>by rcases i with _|_|_|i<;>first|rfl|(simp at hi;omega)))
      have HS9:=Lib.hid (HS0.out.alloc HS0.out.size (.cells #[.int .i64 0, .int .i64 0, .int .i64 0] 63))
      refine par3_nm (fun W9 hW9=> ?_)
      rw[←hW9] at HR9 HS9
      clear hW9
      refine par3_one 5 (by simp only[zga,zgb,zgc];rfl) (by kernel_rfl) (by rfl) ?_
      refine owp_call (by go_simp;constructor<;>rfl) ?_
      refine(HED _ HS9.out).out.mono ?_
      rintro x W10 ⟨rfl,hb10⟩
      have HR10:=Lib.hid (rowIs_touch HR9.out (Touch.of_below (F:=[]) hb10) (by simp))
      have HS10:=Lib.hid (below_next HS9.out HS9.out.size hb10)
      refine⟨_,rfl,fun _ _=>HS10.out, ?_⟩
      clear hb10
      simp only[Act.put,zpa,zpb,zpc]
      refine par3_move (v:= ?_) 6 (by simp only[zga,zgb,zgc];rfl) (by kernel_rfl) (by rfl) ?_ (fun _ _ _ h=>h) ?_
      rotate_left
      ·(intro w9;go_simp;try with_reducible rfl)
      simp only[Act.put,zpa,zpb,zpc]
      refine par3_move (v:= ?_) 7 (by simp only[zga,zgb,zgc];rfl) (by kernel_rfl) (by rfl) ?_ (fun _ _ _ h=>h) ?_
      rotate_left
      ·(intro w9;go_simp;try with_reducible rfl)
      simp only[Act.put,zpa,zpb,zpc]
      refine par3_move (v:= ?_) 8 (by simp only[zga,zgb,zgc];rfl) (by kernel_rfl) (by rfl) ?_ (fun _ _ _ h=>h) ?_
      rotate_left
      ·(intro w9;go_simp;try with_reducible rfl)
      simp only[Act.put,zpa,zpb,zpc]
      have f0:=World.rowIs.frozen HR10.out 0
      have f1:=World.rowIs.frozen HR10.out 1
      have f2:=World.rowIs.frozen HR10.out 2
      have u0:=World.rowIs.cell HR10.out (i:=0) (by decide)
      have u1:=World.rowIs.cell HR10.out (i:=1) (by decide)
      have u2:=World.rowIs.cell HR10.out (i:=2) (by decide)
      refine par3_one 10 (by simp only[zga,zgb,zgc];rfl) (by kernel_rfl) (by rfl) ?_
      refine owp_skip (w1:= ?_) ?_ ?_
      rotate_left
      ·(go_simp;first|rfl|(constructor<;>rfl))
      refine⟨fun s _=>((s.setCell HS0.out.size _).setCell HS0.out.size _).setCell HS0.out.size _, ?_⟩
      simp only[Act.put,zpa,zpb,zpc]
      refine par3_tail _ (by simp only[List.drop_succ_cons,List.drop_zero];rfl) (by kernel_rfl) ?_
      go_wp2_with fail
      refine NoPanic.normal ?_
      go_step
      go_step
      go_meet
      refine⟨_,rfl,World.rowIs.congr (World.rowIs.set (World.rowIs.set (World.rowIs.set HR10.out 0 _) 1 _) 2 _) (fun i hi=> ?_),HS0.out.size,((HS10.out.setCell HS0.out.size _).setCell HS0.out.size _).setCell HS0.out.size _⟩
      rcases i with _|_|_|i<;>first|rfl|omega
    case rest=>
    obtain⟨b13,rfl,hr13,hle13,hbx⟩:=hcut
    have H13:=Lib.hid hle13
    clear hle13
    have I7:=Lib.hid (I6.out.below hbx)
    have HR13:=Lib.hid hr13
    have HQ7:=Lib.hid (rowIs_touch HQR.out (Touch.of_below (F:=[]) hbx) (by simp))
    have HL7:=Lib.hid (ownsRow_touch HLR6.out (Touch.of_below (F:=[]) hbx) (by simp))
    have HH7:=Lib.hid (HH6.out.touch (Touch.of_below (F:=[]) hbx) I6.out.tch.size (by simp))
    clear hbx hr13
    go_upto_region 16 with (at_builtin;go_loud (refine wpList_append_near _ rfl (.tmp 69) (.tmp 72) 28 rfl 0 41 i0 (.agg #[.slice none 0 0, .slice none 0 0, .slice none 0 0]) 3 72 Try.underlying28 hi hz0 hz1 hz2 rfl (by decide) vo (rmK p k).length _ rfl (I7.out.rl.row.alloc _) ⟨wc.heap.size,0,none⟩ 1 1 [.slice (some ⟨g1,0,none⟩) L.length cc1, .slice none 0 0, .slice none 0 0] rfl (by decide) rfl (cell_list_at _ [.slice (some ⟨g1,0,none⟩) L.length cc1, .slice none 0 0, .slice none 0 0] _ rfl) (by intro u hu;simp at hu;rcases hu with rfl|rfl<;>rfl) (by have h1:=HIL.out;have h2:=HRN.out;have h3:=HR.out.ne;have h4:(rmK p k).length=(outK p k).length+1:=(by simp[rmK]);unfold maxLen;omega) (by have h1:=HIL.out;have h2:=HRN.out;have h3:=HR.out.ne;have h4:(rmK p k).length=(outK p k).length+1:=(by simp[rmK]);omega) (Nat.zero_le _) ?_;intro g8 cap8 w8 hown hgr hat;have hrow7:=I7.out.rl.row;have hb8:Below wc.heap.size wc (wc.alloc (.cells #[.slice (some ⟨g1,0,none⟩) L.length cc1, .slice none 0 0, .slice none 0 0] 41)):=below_alloc (Below.refl _ _);have k8:=(Touch.of_below (F:=vo.ownBlock.toList) hb8).trans (Touch.of_grown hgr) (fun x hx=> .inl hx);have I8:=Lib.hid (I7.out.part HH7.out hb8 hown hgr (hat.imp id (fun h=>h)));have HR8:=Lib.hid (rowIs_touch HR13.out k8 (own_not hrow7 HR13.out (by decide)));have HQ8:=Lib.hid (rowIs_touch HQ7.out k8 (own_not hrow7 HQ7.out (by decide)));have HL8:=Lib.hid (ownsRow_touch HL7.out k8 (fun q hq hm=>own_apart HL7.out hrow7 (by decide) hq (Option.mem_toList.1 hm)));clear hown hgr hat hrow7 hb8 k8))
    have h5w:=I5.out.tch.size
    have hmb:w5.heap.size∉mu::vr.ownBlock.toList:=fun hm=>by
     rcases List.mem_cons.1 hm with e|hm
     ·have:=HMU.out;have:=HB45.out.size;omega
     ·exact own_not I8.out.ou.row HQ8.out (by decide) hm
    have hme:b13∉mu::vr.ownBlock.toList:=fun hm=>by
     rcases List.mem_cons.1 hm with e|hm
     ·have:=H13.out
      have:=HMU.out
      have:=I6.out.tch.size
      omega
     ·exact own_not I8.out.ou.row HR8.out (by decide) hm
    have HY2:=fun(w':World) (t:Touch (mu::vr.ownBlock.toList) w8 w')=>Lib.hid (show w'.cell? ⟨w5.heap.size,0,none⟩=some (.int .u64 y0)∧w'.cell? ⟨w5.heap.size,1,none⟩=some (.int .u64 y1)∧w'.cell? ⟨w5.heap.size,2,none⟩=some (.int .u64 y2)∧w'.cell? ⟨w5.heap.size,3,none⟩=some (.int .u64 y3)∧w'.cell? ⟨b13,1,none⟩=some (.int .i64 e.a) from by
     have r1:=rowIs_touch HQ8.out t hmb
     have r2:=rowIs_touch HR8.out t hme
     exact⟨World.rowIs.cell r1 (i:=0) (by decide),World.rowIs.cell r1 (i:=1) (by decide),World.rowIs.cell r1 (i:=2) (by decide),World.rowIs.cell r1 (i:=3) (by decide),World.rowIs.cell r2 (i:=1) (by decide)⟩)
    have HS0:=Lib.hid (Touch.refl (mu::vr.ownBlock.toList) w8).drew
    have ID:=Lib.hid (I8.out.below (Below.refl w8.heap.size w8).drew)
    have HLD:=Lib.hid (ownsRow_touch HL8.out (Touch.refl [] w8).drew (by simp))
    have HFA:=Lib.hid (show fitI e.a from by
     rw[HEE.out]
     unfold findE
     cases hq:p.es.find? (isE h0.edge) with
     |none=>exact(show fitI 0 from⟨by decide,by decide⟩)
     |some x=>exact(HF.out.es x (List.mem_of_find?_eq_some hq)).2.1)
    have HOU:=Lib.hid (show ouOf g (orOf p L)=⟨L.map (lineH p),A,g e.a⟩ from by unfold ouOf orOf;rw[frA_find HL0.out, ←HEE.out,HAA.out])
    clear h5w hmb hme
    refine wp_region_noPanic ?_
    refine wp_region_par3 10 10 (by kernel_rfl) (by kernel_rfl) (by simp) (by omega) (by kernel_rfl) (by kernel_rfl) (fun w':World=>Touch (mu::vr.ownBlock.toList) w8 w') ?_
    refine par3_move (v:= ?_) 0 (by simp only[zga,zgb,zgc];rfl) (by kernel_rfl) (by rfl) ?_ (fun _ _ _ h=>h) ?_
    rotate_left
    ·(intro w9;go_simp;try with_reducible rfl)
    simp only[Act.put,zpa,zpb,zpc]
    refine par3_move (v:= ?_) 1 (by simp only[zga,zgb,zgc];rfl) (by kernel_rfl) (by rfl) ?_ (fun _ _ _ h=>h) ?_
    rotate_left
    ·(intro w9;go_simp;try with_reducible rfl)
    simp only[Act.put,zpa,zpb,zpc]
    refine par3_read (v:= ?_) 2 (by simp only[zga,zgb,zgc];rfl) (by kernel_rfl) (by rfl) HS0.out ?_ (fun _ _ _ h=>h) ?_
    rotate_left
    ·(intro w9;intro hSw;obtain⟨y0_,y1_,y2_,y3_,y4_⟩:=(HY2 w9 hSw).out;clear hSw;go_simp;try with_reducible rfl)
    simp only[Act.put,zpa,zpb,zpc]
    refine par3_move (v:= ?_) 3 (by simp only[zga,zgb,zgc];rfl) (by kernel_rfl) (by rfl) ?_ (fun _ _ _ h=>h) ?_
    rotate_left
    ·(intro w9;go_simp;try with_reducible rfl)
    simp only[Act.put,zpa,zpb,zpc]
    refine par3_move (v:= ?_) 4 (by simp only[zga,zgb,zgc];rfl) (by kernel_rfl) (by rfl) ?_ (fun _ _ _ h=>h) ?_
    rotate_left
    ·(intro w9;go_simp;try with_reducible rfl)
    simp only[Act.put,zpa,zpb,zpc]
    refine par3_read (v:= ?_) 5 (by simp only[zga,zgb,zgc];rfl) (by kernel_rfl) (by rfl) HS0.out ?_ (fun _ _ _ h=>h) ?_
    rotate_left
    ·(intro w9;intro hSw;obtain⟨y0_,y1_,y2_,y3_,y4_⟩:=(HY2 w9 hSw).out;clear hSw;go_simp;try with_reducible rfl)
    simp only[Act.put,zpa,zpb,zpc]
    refine par3_one 6 (by simp only[zga,zgb,zgc];rfl) (by kernel_rfl) (by rfl) ?_
    refine owp_call (by go_simp;constructor<;>rfl) ?_
    refine(ID.out.find e.a HFA.out).mono ?_
    rintro x w9 ⟨rfl,i9,t9⟩
    refine⟨_,rfl,fun s _=>s.trans t9 (fun b hb=> .inl (by simp at hb;subst hb;simp)), ?_⟩
    have I9:=Lib.hid i9
    have HL9:=Lib.hid (ownsRow_touch HLD.out t9 (fun q hq hm=>by have:=(HLD.out.lt q hq).1;have:=HMU.out;simp at hm;omega))
    clear i9 t9
    simp only[Act.put,zpa,zpb,zpc]
    refine par3_move (v:= ?_) 7 (by simp only[zga,zgb,zgc];rfl) (by kernel_rfl) (by rfl) ?_ (fun _ _ _ h=>h) ?_
    rotate_left
    ·(intro w9;go_simp;try with_reducible rfl)
    simp only[Act.put,zpa,zpb,zpc]
    refine par3_one 8 (by simp only[zga,zgb,zgc];rfl) (by kernel_rfl) (by rfl) ?_
    refine owp_val (v:= ?_) (w1:= ?_) ?_ ?_
    rotate_left 2
    ·(go_simp;constructor<;>rfl)
    refine⟨fun s _=>s.alloc _, ?_⟩
    simp only[Act.put,zpa,zpb,zpc]
    refine par3_one 9 (by simp only[zga,zgb,zgc];rfl) (by kernel_rfl) (by rfl) ?_
    refine owp_append_near rfl (.tmp 74) (.tmp 82) 97 rfl Wc.heap.size 155 j0 (.agg #[.slice none 0 0, .int .u64 0, .int .u64 0, .int .u64 0, .int .u64 0, .int .i64 0]) 6 64 Try.underlying97 hj hj0 hj1 hj2 rfl (by decide) vr (ouK p g k).length _ rfl (I9.out.ou.row.alloc _) ⟨w9.heap.size,0,none⟩ 1 1 [.slice a1 L.length c4, .int .u64 y0, .int .u64 y1, .int .u64 y2, .int .u64 y3, .int .i64 (g e.a)] rfl (by decide) rfl (cell_list_at _ [.slice a1 L.length c4, .int .u64 y0, .int .u64 y1, .int .u64 y2, .int .u64 y3, .int .i64 (g e.a)] _ rfl) (by intro u hu;simp at hu;rcases hu with rfl|rfl|rfl|rfl|rfl|rfl<;>rfl) (by have h1:=HIL.out;have h2:=HRN.out;have h3:=HR.out.ne;have h4:(ouK p g k).length=(outK p k).length:=(by simp[ouK]);unfold maxLen;omega) (by have h1:=HIL.out;have h2:=HRN.out;have h3:=HR.out.ne;have h4:(ouK p g k).length=(outK p k).length:=(by simp[ouK]);omega) (by have:=I9.out.tch.size;simp;omega) ?_
    intro g10 cap10 w10 hown hgr hat
    have hy:w9.ownsRow Wc.heap.size 156 4 (.slice a1 L.length c4) (⟨L.map (lineH p),A,g e.a⟩:OU).lines.length ((⟨L.map (lineH p),A,g e.a⟩:OU).lines.flatMap lnC):=by
     show w9.ownsRow _ _ _ _ (L.map (lineH p)).length _
     rw[List.length_map]
     exact HL9.out
    obtain⟨e0,e1,e2,e3⟩:=HYY.out
    have I10:=Lib.hid (I9.out.outer (o:=⟨L.map (lineH p),A,g e.a⟩) hy (below_alloc (Below.refl _ _)) (by unfold ouC;simp only;rw[←e0, ←e1, ←e2, ←e3];exact hown) hgr)
    refine⟨fun s _=>s.trans (Touch.of_grown hgr) (fun b hb=> .inl (List.mem_cons_of_mem _ hb)), ?_⟩
    clear hown hgr hat hy e0 e1 e2 e3
    simp only[Act.put,zpa,zpb,zpc]
    refine par3_tail _ (by simp only[List.drop_succ_cons,List.drop_zero];rfl) (by kernel_rfl) ?_
    go_wp2_with fail
    refine NoPanic.normal ?_
    go_wp2_with fail
    go_roundw
    case rel=>exact⟨k+1,_,_,_,_,_,_,HLT.out,by go_num,rfl,rfl,rfl,by rw[rmK_pos HO1.out,ouK_pos HO1.out,HO2.out,HOU.out];exact I10.out⟩
    case measure=>have:=HLT.out;simp[intOf];omega
   ·have hsg:A.sign≤0:=by
     rcases Int.lt_trichotomy A 0 with h|h|h
     ·rw[Int.sign_eq_neg_one_of_neg h];decide
     ·rw[h];decide
     ·exact absurd h hpos
    obtain⟨ho1,ho2⟩:=outK_neg HLK.out (by rw[←HAA.out];exact hpos)
    have HO1:=Lib.hid ho1
    have HO2:=Lib.hid ho2
    have HIL:=Lib.hid (innK_len p k)
    clear ho1 ho2 hpos
    generalize A.sign=sg at*
    go_wp2_with (at_builtin;go_loud (refine wpList_append_near _ rfl (.tmp 56) (.tmp 58) 38 rfl Wc.heap.size 33 k0 (.slice none 0 0) 1 24 Try.underlying38 hk hk0 hk1 hk2 rfl (by decide) vi (innK p k).length Zn rfl (I6.out.io.alloc _) ⟨w6.heap.size,0,none⟩ 1 1 [.slice (some ⟨g1,0,none⟩) L.length cc1] rfl (by decide) rfl (fun q u hu=>by rw[addr_add0];rcases q with _|q<;>simp at hu;subst hu;simp[World.cell?_alloc_new]) (by simp[Value.oneCell']) (by have:=HIL.out;have:=HRN.out;have:=HEI.out.1;unfold maxLen;omega) (by have:=HIL.out;have:=HRN.out;have:=HEI.out.1;omega) (by have:=I6.out.tch.size;simp;omega) ?_;intro g9 cap9 w9 hown hgr hat;have I9:=Lib.hid (I6.out.inner HH6.out (below_alloc (Below.refl _ _)) hown hgr);clear hown hgr hat))
    go_roundw
    case rel=>exact⟨k+1,_,_,_,_,_,_,HLT.out,by go_num,rfl,rfl,rfl,by rw[rmK_eq HO1.out,ouK_eq HO1.out,HO2.out];exact I9.out⟩
    case measure=>have:=HLT.out;simp[intOf];omega
  ·obtain rfl:k=(ringsP p).length:=by omega
   have hrmK:rmK p (ringsP p).length=rmI p g 0:=by unfold rmK rmI base17 outK outersP;rw[List.take_length];rfl
   have houK:ouK p g (ringsP p).length=(orsP p).map (ouOf g):=by unfold ouK outK orsP outersP;rw[List.take_length,List.map_map];rfl
   have hinK:innK p (ringsP p).length=innersP p:=by unfold innK innersP;rw[List.take_length]
   have hI:=HI.out
   rw[hrmK,houK,hinK] at hI
   obtain⟨gb,capb,hvo⟩:=ownsRow_form hI.rl.row (by rw[rmI_len];omega)
   subst hvo
   obtain⟨via,vic,hvi⟩:=own_form hI.io
   subst hvi
   obtain⟨vra,vrc,hvr⟩:=own_form hI.ou.row
   subst hvr
   have I0:=Lib.hid (show RS w Wc wr g (w2.heap.size+1) w2.heap.size bu bf mu wr.heap.size (.slice (some ⟨gb,0,none⟩) (rmI p g 0).length capb) (.slice vra ((orsP p).map (ouOf g)).length vrc) (.slice via (innersP p).length vic) (rmI p g 0) ((orsP p).map (ouOf g)) (innersP p) H nilV nilV (fun _=>[]) Y Zn from hI.rebase hI.tch.size)
   have HS1:=Lib.hid (show Wc.heap.size≤wr.heap.size from hI.tch.size)
   have HIN:=Lib.hid (show(innersP p).length≤2048 from by have:=innK_len p (ringsP p).length;rw[hinK] at this;have:=HRN.out;have:=HR.out.ne;omega)
   have HON:=Lib.hid (show(outersP p).length≤2048 from by have:=outK_len p (ringsP p).length;unfold outK at this;rw[List.take_length] at this;have h2:=HRN.out;have h3:=HR.out.ne;have h4:(outersP p).length≤(ringsP p).length:=this;omega)
   clear hI hrmK houK hinK HI hlt hkN
   obtain⟨bs,hbs⟩: ∃bs,bs=wr.heap.size:=⟨_,rfl⟩
   rw[←hbs] at I0
   have HBS:=Lib.hid (show bs≤wr.heap.size from Nat.le_of_eq hbs)
   clear hbs
   generalize hNI:(innersP p).length=NI at*
   have HNI:=Lib.hid hNI
   clear hNI
   generalize hNO:((orsP p).map (ouOf g)).length=NO at*
   have HNO:=Lib.hid hNO
   clear hNO
   generalize hNR:(rmI p g 0).length=NR at*
   have HNR:=Lib.hid (show NR=(outersP p).length+1 from by rw[←hNR,rmI_len])
   clear hNR
   go_wp2_with fail
   clear c0 c1
   obtain⟨wo,rfl⟩: ∃wo:World,wo=wr:=⟨_,rfl⟩
   go_loopw [87] (fun i wr=> ∃(j:Nat) (VI:Nat→Value) (ZI:Nat→List Value),j≤NI∧i= .int .i64 j∧RS w Wc wr g (w2.heap.size+1) w2.heap.size bu bf mu bs (.slice (some ⟨gb,0,none⟩) NR capb) (.slice vra NO vrc) (.slice via NI vic) (rmI p g j) ((orsP p).map (ouOf g)) (innersP p) H VI nilV ZI Y Zn∧bs≤wr.heap.size) (fun i _=>NI - (intOf i).toNat)
   case atStart=>exact⟨0,_,_,Nat.zero_le _,rfl,I0.out,HBS.out⟩
   case round=>
    clear I0 HBS
    obtain⟨j,VI,ZI,hjN,rfl,hI,hbs⟩:=hrel
    have HBS:=Lib.hid hbs
    clear hbs
    have HI:=Lib.hid hI
    clear hI
    obtain⟨c0,c1,hbw⟩:=(HCW _ HI.out.tch).out
    have HBW2:=Lib.hid hbw
    clear hbw
    by_cases hlj:j<NI
    ·obtain⟨L,hL⟩: ∃L,(innersP p)[j]? =some L:=⟨_,List.getElem?_eq_getElem (by rw[HNI.out];exact hlj)⟩
     have hLm:=(List.mem_filter.1 (List.mem_of_getElem? hL)).1
     obtain⟨x0,m0,hring⟩:=HR.out.rings.1 L hLm
     have HMEM:=Lib.hid (fun x hx=>(hring.mem x hx).1)
     have HLN:=Lib.hid hring.ne
     have HHDH:=Lib.hid (HR.out.ring_head hLm)
     have HSC:=Lib.hid (show rmI p g (j+1)=addI (rmI p g j) (idxI p g L) L from rmI_succ hL)
     have HLL:=Lib.hid (show L.length≤2048 from by
      have h1:=nodup_len hring.nd (fun y hy=>HMEM.out y hy)
      rw[halves_len] at h1
      have:=HR.out.ne
      omega)
     obtain⟨z,hz⟩: ∃z,Zn[j]? =some z:=⟨_,List.getElem?_eq_getElem (by rw[HI.out.ih.1,HNI.out];exact hlj)⟩
     obtain⟨g1,cc1,rfl,hg1,hg2,hat⟩:=(HI.out.ih.2 j z L hz hL).resolve_left (fun e=>HLN.out e.1)
     have hio:=HI.out.io
     rw[HNI.out] at hio
     obtain⟨gi,capi,hgi⟩:=ownsRow_form hio (by omega)
     injection hgi with hgi1 hgi2 hgi3
     subst hgi1
     have hcz:=(addr_add0 gi j)▸hio.cells (g:=gi) rfl (j:=j) (u:=_) hz
     have hgiw:=(hio.lt gi rfl).2
     have HG1:=Lib.hid (show w2.heap.size+1≤g1∧g1<Wc.heap.size from⟨hg1,hg2⟩)
     have HHD:=Lib.hid (show HdR (fun g=>w2.heap.size+1≤g) Wc.heap.size wr (.slice (some ⟨g1,0,none⟩) L.length cc1) L from .inr ⟨g1,cc1,rfl,hg1,hg2,hat⟩)
     have HAT:=Lib.hid hat
     have hsz:=HI.out.tch.size
     obtain⟨h0,Lt,hL0⟩: ∃h0 Lt,L=h0::Lt:=by
      cases L with
      |nil=>exact absurd rfl HLN.out
      |cons a b=>exact⟨a,b,rfl⟩
     have HL0:=Lib.hid hL0
     have hh0:=hat 0 h0 (by rw[hL0];rfl)
     have hg1w:g1<wr.heap.size:=by omega
     have HPS:=Lib.hid (show w.heap.size<wr.heap.size from by have:=HMU.out;have:=HX2.out.size;omega)
     have HBR:=Lib.hid (show B≤wr.heap.size from by have:=HPS.out;omega)
     have hL2:0<L.length:=by rw[hL0];simp
     have HENP:=fun(h:Hf) (hh:h∈halvesE p.es) (W:World) (hb:Below wr.heap.size wr W)=>Lib.hid (show Calls Try.prog 58 #[.agg #[.slice va vn vc, .slice ea en ec], .agg #[.int .i64 h.edge, .bool h.back]] W fun x w'=>x= .returned (.tuple #[ptV (ptH p h),ptV (ptH p (twinH h)), .bool true])∧Below W.heap.size W w' from by
      have h9:=HBW2.out.size
      have:=rends_any (w:=W) (vc:=vc) (ec:=ec) (HVI.out.below ((HBW2.out.trans (hb.mono h9)).mono hB)) (HEI.out.below ((HBW2.out.trans (hb.mono h9)).mono hB)) (Nat.le_trans hB (Nat.le_trans h9 hb.size)) (by omega) (by omega) h
      rw[endsP_line (mem_known hh),mem_known hh] at this
      exact this)
     have HEN:=fun(W:World) (hb:Below wr.heap.size wr W)=>HENP h0 (HMEM.out h0 (by rw[hL0];simp)) W hb
     obtain⟨⟨ax,ay⟩,hA⟩: ∃a,a=ptH p h0:=⟨_,rfl⟩
     obtain⟨⟨bx,by_⟩,hB2⟩: ∃a,a=ptH p (twinH h0):=⟨_,rfl⟩
     rw[←hA, ←hB2] at HEN
     simp only[ptV] at HEN
     have HLK0:=Lib.hid (show leastK p L 0=⟨ax,ay⟩ from by rw[hA];unfold leastK headH;rw[hL0];rfl)
     clear hL hLm hring hz hat hio hgi2 hgi3 hsz hL0 hA hB2
     go_upto_region 21 with fail
     go_cut [17,18,19] (fun p17 _ _ wx=> ∃b17,p17= .pointer (some ⟨b17,0,none⟩)∧wx.rowIs b17 51 2 (ptF ⟨ax,ay⟩)∧wr.heap.size≤b17∧Below wr.heap.size wr wx)
     case first=>
      go_wp2_with fail
      have HY:=fun(w':World) (t:Below wr.heap.size wr w')=>Lib.hid (show w'.cell? ⟨w.heap.size,0,none⟩=some (.slice va vn vc)∧w'.cell? ⟨w.heap.size,1,none⟩=some (.slice ea en ec)∧w'.cell? ⟨g1,0,none⟩=some (.int .i64 h0.edge)∧w'.cell? ⟨g1,1,none⟩=some (.bool h0.back) from
       ⟨(t.cell (p:=⟨w.heap.size,0,none⟩) HPS.out).trans c0,(t.cell (p:=⟨w.heap.size,1,none⟩) HPS.out).trans c1,(t.cell (p:=⟨g1,0,none⟩) hg1w).trans hh0.1,(t.cell (p:=⟨g1,1,none⟩) hg1w).trans hh0.2⟩)
      have HS0:=Lib.hid (Below.refl wr.heap.size wr).drew
      refine wp_region_noPanic ?_
      refine wp_region_par3 13 13 (by kernel_rfl) (by kernel_rfl) (by simp) (by omega) (by kernel_rfl) (by kernel_rfl) (fun w':World=>Below wr.heap.size wr w') ?_
      refine par3_read (v:= ?_) 0 (by simp only[zga,zgb,zgc];rfl) (by kernel_rfl) (by rfl) HS0.out ?_ (fun _ _ _ h=>h) ?_
      rotate_left
      ·(intro w9 hSw;first|(obtain⟨y0,y1,y2,y3⟩:=(HY w9 hSw).out;clear hSw;go_simp;try with_reducible rfl;done)|(obtain⟨y0,y1,y2⟩:=(HY w9 hSw).out;clear hSw;go_simp;try with_reducible rfl))
      simp only[Act.put,zpa,zpb,zpc]
      refine par3_move (v:= ?_) 1 (by simp only[zga,zgb,zgc];rfl) (by kernel_rfl) (by rfl) ?_ (fun _ _ _ h=>h) ?_
      rotate_left
      ·(intro w9;go_simp;try with_reducible rfl)
      simp only[Act.put,zpa,zpb,zpc]
      refine par3_move (v:= ?_) 2 (by simp only[zga,zgb,zgc];rfl) (by kernel_rfl) (by rfl) ?_ (fun _ _ _ h=>h) ?_
      rotate_left
      ·(intro w9;go_simp;try with_reducible rfl)
      simp only[Act.put,zpa,zpb,zpc]
      refine par3_read (v:= ?_) 3 (by simp only[zga,zgb,zgc];rfl) (by kernel_rfl) (by rfl) HS0.out ?_ (fun _ _ _ h=>h) ?_
      rotate_left
      ·(intro w9 hSw;first|(obtain⟨y0,y1,y2,y3⟩:=(HY w9 hSw).out;clear hSw;go_simp;try with_reducible rfl;done)|(obtain⟨y0,y1,y2⟩:=(HY w9 hSw).out;clear hSw;go_simp;try with_reducible rfl))
      simp only[Act.put,zpa,zpb,zpc]
      have HT8:=HS0
      refine par3_nm (fun W8 hW8=> ?_)
      rw[←hW8] at HT8
      clear hW8
      refine par3_three 4 9 10 (by simp only[zga,zgb,zgc];rfl) (by simp only[zga,zgb,zgc];rfl) (by simp only[zga,zgb,zgc];rfl) (by kernel_rfl) (by rfl) (by rfl) (by rfl) ?_ ?_ ?_
      ·skip
       refine owp_call (by go_simp;constructor<;>rfl) ?_
       refine(HEN _ HT8.out).out.mono ?_
       rintro x W9 ⟨rfl,hb9⟩
       have HT9:=Lib.hid (below_next HT8.out HT8.out.size hb9)
       refine⟨_,rfl,fun _ _=>HT9.out, ?_⟩
       clear hb9
       simp only[Act.put,zpa,zpb,zpc]
       refine par3_move (v:= ?_) 5 (by simp only[zga,zgb,zgc];rfl) (by kernel_rfl) (by rfl) ?_ (fun _ _ _ h=>h) ?_
       rotate_left
       ·(intro w9;go_simp;try with_reducible rfl)
       simp only[Act.put,zpa,zpb,zpc]
       refine par3_move (v:= ?_) 6 (by simp only[zga,zgb,zgc];rfl) (by kernel_rfl) (by rfl) ?_ (fun _ _ _ h=>h) ?_
       rotate_left
       ·(intro w9;go_simp;try with_reducible rfl)
       simp only[Act.put,zpa,zpb,zpc]
       refine par3_move (v:= ?_) 7 (by simp only[zga,zgb,zgc];rfl) (by kernel_rfl) (by rfl) ?_ (fun _ _ _ h=>h) ?_
       rotate_left
       ·(intro w9;go_simp;try with_reducible rfl)
       simp only[Act.put,zpa,zpb,zpc]
       refine par3_move (v:= ?_) 8 (by simp only[zga,zgb,zgc];rfl) (by kernel_rfl) (by rfl) ?_ (fun _ _ _ h=>h) ?_
       rotate_left
       ·(intro w9;go_simp;try with_reducible rfl)
       simp only[Act.put,zpa,zpb,zpc]
       refine par3_two 9 10 (by simp only[zga,zgb,zgc];rfl) (by simp only[zga,zgb,zgc];rfl) (by kernel_rfl) (by rfl) (by rfl) ?_ ?_
       ·skip
        refine owp_val (v:= ?_) (w1:= ?_) ?_ ?_
        rotate_left 2
        ·(go_simp;constructor<;>rfl)
        refine⟨fun s _=>s.alloc s.size _, ?_⟩
        simp only[Act.put,zpa,zpb,zpc]
        have HR17:=Lib.hid (World.rowIs_alloc W9 #[.int .i64 0, .int .i64 0] 51 (ptF ⟨0,0⟩) (ptF_get ⟨0,0⟩))
        have HB17:=Lib.hid (show wr.heap.size≤W9.heap.size from HT9.out.size)
        have HT10:=Lib.hid (HT9.out.alloc HT9.out.size (.cells #[.int .i64 0, .int .i64 0] 51))
        refine par3_nm (fun W10 hW9=> ?_)
        rw[←hW9] at HT10 HR17
        clear hW9
        refine par3_one 10 (by simp only[zga,zgb,zgc];rfl) (by kernel_rfl) (by rfl) ?_
        refine owp_val (v:= ?_) (w1:= ?_) ?_ ?_
        rotate_left 2
        ·(go_simp;constructor<;>rfl)
        refine⟨fun s _=>s.alloc s.size _, ?_⟩
        simp only[Act.put,zpa,zpb,zpc]
        have HLT17:=Lib.hid (World.rowIs.lt HR17.out)
        have HR17:=Lib.hid (World.rowIs.alloc HR17.out (.cells #[.int .i64 0, .int .i64 0] 51))
        have HR18:=Lib.hid (World.rowIs_alloc W10 #[.int .i64 0, .int .i64 0] 51 (ptF ⟨0,0⟩) (ptF_get ⟨0,0⟩))
        have HB18:=Lib.hid (show wr.heap.size≤W10.heap.size from HT10.out.size)
        have HT11:=Lib.hid (HT10.out.alloc HT10.out.size (.cells #[.int .i64 0, .int .i64 0] 51))
        refine par3_nm (fun W11 hW9=> ?_)
        rw[←hW9] at HT11 HR17 HR18
        clear hW9
        have HL17:=Lib.hid (show W9.heap.size≠W10.heap.size from by first|(have:=HLT17.out;omega)|(have:=HLT18.out;omega))
        have hne:=HL17.out
        have hne2:=Ne.symm hne
        have f17:=fun i=>World.rowIs.frozen HR17.out i
        have f18:=fun i=>World.rowIs.frozen HR18.out i
        have u0:=World.rowIs.cell HR17.out (i:=0) (by decide)
        have u1:=World.rowIs.cell HR17.out (i:=1) (by decide)
        have u2:=World.rowIs.cell HR18.out (i:=0) (by decide)
        have u3:=World.rowIs.cell HR18.out (i:=1) (by decide)
        refine par3_one 11 (by simp only[zga,zgb,zgc];rfl) (by kernel_rfl) (by rfl) ?_
        refine owp_skip (w1:= ?_) ?_ ?_
        rotate_left
        ·(go_simp;first|rfl|(constructor<;>rfl))
        refine⟨fun s _=>(s.setCell HB17.out _).setCell HB17.out _, ?_⟩
        simp only[Act.put,zpa,zpb,zpc]
        refine par3_one 12 (by simp only[zga,zgb,zgc];rfl) (by kernel_rfl) (by rfl) ?_
        refine owp_skip (w1:= ?_) ?_ ?_
        rotate_left
        ·(go_simp;first|rfl|(constructor<;>rfl))
        refine⟨fun s _=>(s.setCell HB18.out _).setCell HB18.out _, ?_⟩
        simp only[Act.put,zpa,zpb,zpc]
        refine par3_tail _ (by simp only[List.drop_succ_cons,List.drop_zero];rfl) (by kernel_rfl) ?_
        go_wp2_with fail
        refine NoPanic.normal ?_
        go_step
        go_step
        go_meet
        refine⟨_,rfl, ?_,HB17.out,(((HT11.out.setCell HB17.out _).setCell HB17.out _).setCell HB18.out _).setCell HB18.out _⟩
        refine World.rowIs.setOther (World.rowIs.setOther (World.rowIs.congr (World.rowIs.set (World.rowIs.set HR17.out 0 _) 1 _) (fun i hi=> ?_)) (show W9.heap.size≠W10.heap.size from HL17.out) _) (show W9.heap.size≠W10.heap.size from HL17.out) _
        rcases i with _|_|i<;>first|rfl|exact absurd hi (by show¬(i+2<2);omega)
       ·skip
        refine owp_val (v:= ?_) (w1:= ?_) ?_ ?_
        rotate_left 2
        ·(go_simp;constructor<;>rfl)
        refine⟨fun s _=>s.alloc s.size _, ?_⟩
        simp only[Act.put,zpa,zpb,zpc]
        have HR18:=Lib.hid (World.rowIs_alloc W9 #[.int .i64 0, .int .i64 0] 51 (ptF ⟨0,0⟩) (ptF_get ⟨0,0⟩))
        have HB18:=Lib.hid (show wr.heap.size≤W9.heap.size from HT9.out.size)
        have HT10:=Lib.hid (HT9.out.alloc HT9.out.size (.cells #[.int .i64 0, .int .i64 0] 51))
        refine par3_nm (fun W10 hW9=> ?_)
        rw[←hW9] at HT10 HR18
        clear hW9
        refine par3_one 9 (by simp only[zga,zgb,zgc];rfl) (by kernel_rfl) (by rfl) ?_
        refine owp_val (v:= ?_) (w1:= ?_) ?_ ?_
        rotate_left 2
        ·(go_simp;constructor<;>rfl)
        refine⟨fun s _=>s.alloc s.size _, ?_⟩
        simp only[Act.put,zpa,zpb,zpc]
        have HLT18:=Lib.hid (World.rowIs.lt HR18.out)
        have HR18:=Lib.hid (World.rowIs.alloc HR18.out (.cells #[.int .i64 0, .int .i64 0] 51))
        have HR17:=Lib.hid (World.rowIs_alloc W10 #[.int .i64 0, .int .i64 0] 51 (ptF ⟨0,0⟩) (ptF_get ⟨0,0⟩))
        have HB17:=Lib.hid (show wr.heap.size≤W10.heap.size from HT10.out.size)
        have HT11:=Lib.hid (HT10.out.alloc HT10.out.size (.cells #[.int .i64 0, .int .i64 0] 51))
        refine par3_nm (fun W11 hW9=> ?_)
        rw[←hW9] at HT11 HR18 HR17
        clear hW9
        have HL17:=Lib.hid (show W10.heap.size≠W9.heap.size from by first|(have:=HLT17.out;omega)|(have:=HLT18.out;omega))
        have hne:=HL17.out
        have hne2:=Ne.symm hne
        have f17:=fun i=>World.rowIs.frozen HR17.out i
        have f18:=fun i=>World.rowIs.frozen HR18.out i
        have u0:=World.rowIs.cell HR17.out (i:=0) (by decide)
        have u1:=World.rowIs.cell HR17.out (i:=1) (by decide)
        have u2:=World.rowIs.cell HR18.out (i:=0) (by decide)
        have u3:=World.rowIs.cell HR18.out (i:=1) (by decide)
        refine par3_one 11 (by simp only[zga,zgb,zgc];rfl) (by kernel_rfl) (by rfl) ?_
        refine owp_skip (w1:= ?_) ?_ ?_
        rotate_left
        ·(go_simp;first|rfl|(constructor<;>rfl))
        refine⟨fun s _=>(s.setCell HB17.out _).setCell HB17.out _, ?_⟩
        simp only[Act.put,zpa,zpb,zpc]
        refine par3_one 12 (by simp only[zga,zgb,zgc];rfl) (by kernel_rfl) (by rfl) ?_
        refine owp_skip (w1:= ?_) ?_ ?_
        rotate_left
        ·(go_simp;first|rfl|(constructor<;>rfl))
        refine⟨fun s _=>(s.setCell HB18.out _).setCell HB18.out _, ?_⟩
        simp only[Act.put,zpa,zpb,zpc]
        refine par3_tail _ (by simp only[List.drop_succ_cons,List.drop_zero];rfl) (by kernel_rfl) ?_
        go_wp2_with fail
        refine NoPanic.normal ?_
        go_step
        go_step
        go_meet
        refine⟨_,rfl, ?_,HB17.out,(((HT11.out.setCell HB17.out _).setCell HB17.out _).setCell HB18.out _).setCell HB18.out _⟩
        refine World.rowIs.setOther (World.rowIs.setOther (World.rowIs.congr (World.rowIs.set (World.rowIs.set HR17.out 0 _) 1 _) (fun i hi=> ?_)) (show W10.heap.size≠W9.heap.size from HL17.out) _) (show W10.heap.size≠W9.heap.size from HL17.out) _
        rcases i with _|_|i<;>first|rfl|exact absurd hi (by show¬(i+2<2);omega)
      ·skip
       refine owp_val (v:= ?_) (w1:= ?_) ?_ ?_
       rotate_left 2
       ·(go_simp;constructor<;>rfl)
       refine⟨fun s _=>s.alloc s.size _, ?_⟩
       simp only[Act.put,zpa,zpb,zpc]
       have HR17:=Lib.hid (World.rowIs_alloc W8 #[.int .i64 0, .int .i64 0] 51 (ptF ⟨0,0⟩) (ptF_get ⟨0,0⟩))
       have HB17:=Lib.hid (show wr.heap.size≤W8.heap.size from HT8.out.size)
       have HT9:=Lib.hid (HT8.out.alloc HT8.out.size (.cells #[.int .i64 0, .int .i64 0] 51))
       refine par3_nm (fun W9 hW9=> ?_)
       rw[←hW9] at HT9 HR17
       clear hW9
       refine par3_two 4 10 (by simp only[zga,zgb,zgc];rfl) (by simp only[zga,zgb,zgc];rfl) (by kernel_rfl) (by rfl) (by rfl) ?_ ?_
       ·skip
        refine owp_call (by go_simp;constructor<;>rfl) ?_
        refine(HEN _ HT9.out).out.mono ?_
        rintro x W10 ⟨rfl,hb9⟩
        have HT10:=Lib.hid (below_next HT9.out HT9.out.size hb9)
        have HR17:=Lib.hid (rowIs_touch HR17.out (Touch.of_below (F:=[]) hb9) (by simp))
        refine⟨_,rfl,fun _ _=>HT10.out, ?_⟩
        clear hb9
        simp only[Act.put,zpa,zpb,zpc]
        refine par3_move (v:= ?_) 5 (by simp only[zga,zgb,zgc];rfl) (by kernel_rfl) (by rfl) ?_ (fun _ _ _ h=>h) ?_
        rotate_left
        ·(intro w9;go_simp;try with_reducible rfl)
        simp only[Act.put,zpa,zpb,zpc]
        refine par3_move (v:= ?_) 6 (by simp only[zga,zgb,zgc];rfl) (by kernel_rfl) (by rfl) ?_ (fun _ _ _ h=>h) ?_
        rotate_left
        ·(intro w9;go_simp;try with_reducible rfl)
        simp only[Act.put,zpa,zpb,zpc]
        refine par3_move (v:= ?_) 7 (by simp only[zga,zgb,zgc];rfl) (by kernel_rfl) (by rfl) ?_ (fun _ _ _ h=>h) ?_
        rotate_left
        ·(intro w9;go_simp;try with_reducible rfl)
        simp only[Act.put,zpa,zpb,zpc]
        refine par3_move (v:= ?_) 8 (by simp only[zga,zgb,zgc];rfl) (by kernel_rfl) (by rfl) ?_ (fun _ _ _ h=>h) ?_
        rotate_left
        ·(intro w9;go_simp;try with_reducible rfl)
        simp only[Act.put,zpa,zpb,zpc]
        refine par3_one 10 (by simp only[zga,zgb,zgc];rfl) (by kernel_rfl) (by rfl) ?_
        refine owp_val (v:= ?_) (w1:= ?_) ?_ ?_
        rotate_left 2
        ·(go_simp;constructor<;>rfl)
        refine⟨fun s _=>s.alloc s.size _, ?_⟩
        simp only[Act.put,zpa,zpb,zpc]
        have HLT17:=Lib.hid (World.rowIs.lt HR17.out)
        have HR17:=Lib.hid (World.rowIs.alloc HR17.out (.cells #[.int .i64 0, .int .i64 0] 51))
        have HR18:=Lib.hid (World.rowIs_alloc W10 #[.int .i64 0, .int .i64 0] 51 (ptF ⟨0,0⟩) (ptF_get ⟨0,0⟩))
        have HB18:=Lib.hid (show wr.heap.size≤W10.heap.size from HT10.out.size)
        have HT11:=Lib.hid (HT10.out.alloc HT10.out.size (.cells #[.int .i64 0, .int .i64 0] 51))
        refine par3_nm (fun W11 hW9=> ?_)
        rw[←hW9] at HT11 HR17 HR18
        clear hW9
        have HL17:=Lib.hid (show W8.heap.size≠W10.heap.size from by first|(have:=HLT17.out;omega)|(have:=HLT18.out;omega))
        have hne:=HL17.out
        have hne2:=Ne.symm hne
        have f17:=fun i=>World.rowIs.frozen HR17.out i
        have f18:=fun i=>World.rowIs.frozen HR18.out i
        have u0:=World.rowIs.cell HR17.out (i:=0) (by decide)
        have u1:=World.rowIs.cell HR17.out (i:=1) (by decide)
        have u2:=World.rowIs.cell HR18.out (i:=0) (by decide)
        have u3:=World.rowIs.cell HR18.out (i:=1) (by decide)
        refine par3_one 11 (by simp only[zga,zgb,zgc];rfl) (by kernel_rfl) (by rfl) ?_
        refine owp_skip (w1:= ?_) ?_ ?_
        rotate_left
        ·(go_simp;first|rfl|(constructor<;>rfl))
        refine⟨fun s _=>(s.setCell HB17.out _).setCell HB17.out _, ?_⟩
        simp only[Act.put,zpa,zpb,zpc]
        refine par3_one 12 (by simp only[zga,zgb,zgc];rfl) (by kernel_rfl) (by rfl) ?_
        refine owp_skip (w1:= ?_) ?_ ?_
        rotate_left
        ·(go_simp;first|rfl|(constructor<;>rfl))
        refine⟨fun s _=>(s.setCell HB18.out _).setCell HB18.out _, ?_⟩
        simp only[Act.put,zpa,zpb,zpc]
        refine par3_tail _ (by simp only[List.drop_succ_cons,List.drop_zero];rfl) (by kernel_rfl) ?_
        go_wp2_with fail
        refine NoPanic.normal ?_
        go_step
        go_step
        go_meet
        refine⟨_,rfl, ?_,HB17.out,(((HT11.out.setCell HB17.out _).setCell HB17.out _).setCell HB18.out _).setCell HB18.out _⟩
        refine World.rowIs.setOther (World.rowIs.setOther (World.rowIs.congr (World.rowIs.set (World.rowIs.set HR17.out 0 _) 1 _) (fun i hi=> ?_)) (show W8.heap.size≠W10.heap.size from HL17.out) _) (show W8.heap.size≠W10.heap.size from HL17.out) _
        rcases i with _|_|i<;>first|rfl|exact absurd hi (by show¬(i+2<2);omega)
       ·skip
        refine owp_val (v:= ?_) (w1:= ?_) ?_ ?_
        rotate_left 2
        ·(go_simp;constructor<;>rfl)
        refine⟨fun s _=>s.alloc s.size _, ?_⟩
        simp only[Act.put,zpa,zpb,zpc]
        have HLT17:=Lib.hid (World.rowIs.lt HR17.out)
        have HR17:=Lib.hid (World.rowIs.alloc HR17.out (.cells #[.int .i64 0, .int .i64 0] 51))
        have HR18:=Lib.hid (World.rowIs_alloc W9 #[.int .i64 0, .int .i64 0] 51 (ptF ⟨0,0⟩) (ptF_get ⟨0,0⟩))
        have HB18:=Lib.hid (show wr.heap.size≤W9.heap.size from HT9.out.size)
        have HT10:=Lib.hid (HT9.out.alloc HT9.out.size (.cells #[.int .i64 0, .int .i64 0] 51))
        refine par3_nm (fun W10 hW9=> ?_)
        rw[←hW9] at HT10 HR17 HR18
        clear hW9
        refine par3_one 4 (by simp only[zga,zgb,zgc];rfl) (by kernel_rfl) (by rfl) ?_
        refine owp_call (by go_simp;constructor<;>rfl) ?_
        refine(HEN _ HT10.out).out.mono ?_
        rintro x W11 ⟨rfl,hb9⟩
        have HT11:=Lib.hid (below_next HT10.out HT10.out.size hb9)
        have HR17:=Lib.hid (rowIs_touch HR17.out (Touch.of_below (F:=[]) hb9) (by simp))
        have HR18:=Lib.hid (rowIs_touch HR18.out (Touch.of_below (F:=[]) hb9) (by simp))
        refine⟨_,rfl,fun _ _=>HT11.out, ?_⟩
        clear hb9
        simp only[Act.put,zpa,zpb,zpc]
        refine par3_move (v:= ?_) 5 (by simp only[zga,zgb,zgc];rfl) (by kernel_rfl) (by rfl) ?_ (fun _ _ _ h=>h) ?_
        rotate_left
        ·(intro w9;go_simp;try with_reducible rfl)
        simp only[Act.put,zpa,zpb,zpc]
        refine par3_move (v:= ?_) 6 (by simp only[zga,zgb,zgc];rfl) (by kernel_rfl) (by rfl) ?_ (fun _ _ _ h=>h) ?_
        rotate_left
        ·(intro w9;go_simp;try with_reducible rfl)
        simp only[Act.put,zpa,zpb,zpc]
        refine par3_move (v:= ?_) 7 (by simp only[zga,zgb,zgc];rfl) (by kernel_rfl) (by rfl) ?_ (fun _ _ _ h=>h) ?_
        rotate_left
        ·(intro w9;go_simp;try with_reducible rfl)
        simp only[Act.put,zpa,zpb,zpc]
        refine par3_move (v:= ?_) 8 (by simp only[zga,zgb,zgc];rfl) (by kernel_rfl) (by rfl) ?_ (fun _ _ _ h=>h) ?_
        rotate_left
        ·(intro w9;go_simp;try with_reducible rfl)
        simp only[Act.put,zpa,zpb,zpc]
        have HL17:=Lib.hid (show W8.heap.size≠W9.heap.size from by first|(have:=HLT17.out;omega)|(have:=HLT18.out;omega))
        have hne:=HL17.out
        have hne2:=Ne.symm hne
        have f17:=fun i=>World.rowIs.frozen HR17.out i
        have f18:=fun i=>World.rowIs.frozen HR18.out i
        have u0:=World.rowIs.cell HR17.out (i:=0) (by decide)
        have u1:=World.rowIs.cell HR17.out (i:=1) (by decide)
        have u2:=World.rowIs.cell HR18.out (i:=0) (by decide)
        have u3:=World.rowIs.cell HR18.out (i:=1) (by decide)
        refine par3_one 11 (by simp only[zga,zgb,zgc];rfl) (by kernel_rfl) (by rfl) ?_
        refine owp_skip (w1:= ?_) ?_ ?_
        rotate_left
        ·(go_simp;first|rfl|(constructor<;>rfl))
        refine⟨fun s _=>(s.setCell HB17.out _).setCell HB17.out _, ?_⟩
        simp only[Act.put,zpa,zpb,zpc]
        refine par3_one 12 (by simp only[zga,zgb,zgc];rfl) (by kernel_rfl) (by rfl) ?_
        refine owp_skip (w1:= ?_) ?_ ?_
        rotate_left
        ·(go_simp;first|rfl|(constructor<;>rfl))
        refine⟨fun s _=>(s.setCell HB18.out _).setCell HB18.out _, ?_⟩
        simp only[Act.put,zpa,zpb,zpc]
        refine par3_tail _ (by simp only[List.drop_succ_cons,List.drop_zero];rfl) (by kernel_rfl) ?_
        go_wp2_with fail
        refine NoPanic.normal ?_
        go_step
        go_step
        go_meet
        refine⟨_,rfl, ?_,HB17.out,(((HT11.out.setCell HB17.out _).setCell HB17.out _).setCell HB18.out _).setCell HB18.out _⟩
        refine World.rowIs.setOther (World.rowIs.setOther (World.rowIs.congr (World.rowIs.set (World.rowIs.set HR17.out 0 _) 1 _) (fun i hi=> ?_)) (show W8.heap.size≠W9.heap.size from HL17.out) _) (show W8.heap.size≠W9.heap.size from HL17.out) _
        rcases i with _|_|i<;>first|rfl|exact absurd hi (by show¬(i+2<2);omega)
      ·skip
       refine owp_val (v:= ?_) (w1:= ?_) ?_ ?_
       rotate_left 2
       ·(go_simp;constructor<;>rfl)
       refine⟨fun s _=>s.alloc s.size _, ?_⟩
       simp only[Act.put,zpa,zpb,zpc]
       have HR18:=Lib.hid (World.rowIs_alloc W8 #[.int .i64 0, .int .i64 0] 51 (ptF ⟨0,0⟩) (ptF_get ⟨0,0⟩))
       have HB18:=Lib.hid (show wr.heap.size≤W8.heap.size from HT8.out.size)
       have HT9:=Lib.hid (HT8.out.alloc HT8.out.size (.cells #[.int .i64 0, .int .i64 0] 51))
       refine par3_nm (fun W9 hW9=> ?_)
       rw[←hW9] at HT9 HR18
       clear hW9
       refine par3_two 4 9 (by simp only[zga,zgb,zgc];rfl) (by simp only[zga,zgb,zgc];rfl) (by kernel_rfl) (by rfl) (by rfl) ?_ ?_
       ·skip
        refine owp_call (by go_simp;constructor<;>rfl) ?_
        refine(HEN _ HT9.out).out.mono ?_
        rintro x W10 ⟨rfl,hb9⟩
        have HT10:=Lib.hid (below_next HT9.out HT9.out.size hb9)
        have HR18:=Lib.hid (rowIs_touch HR18.out (Touch.of_below (F:=[]) hb9) (by simp))
        refine⟨_,rfl,fun _ _=>HT10.out, ?_⟩
        clear hb9
        simp only[Act.put,zpa,zpb,zpc]
        refine par3_move (v:= ?_) 5 (by simp only[zga,zgb,zgc];rfl) (by kernel_rfl) (by rfl) ?_ (fun _ _ _ h=>h) ?_
        rotate_left
        ·(intro w9;go_simp;try with_reducible rfl)
        simp only[Act.put,zpa,zpb,zpc]
        refine par3_move (v:= ?_) 6 (by simp only[zga,zgb,zgc];rfl) (by kernel_rfl) (by rfl) ?_ (fun _ _ _ h=>h) ?_
        rotate_left
        ·(intro w9;go_simp;try with_reducible rfl)
        simp only[Act.put,zpa,zpb,zpc]
        refine par3_move (v:= ?_) 7 (by simp only[zga,zgb,zgc];rfl) (by kernel_rfl) (by rfl) ?_ (fun _ _ _ h=>h) ?_
        rotate_left
        ·(intro w9;go_simp;try with_reducible rfl)
        simp only[Act.put,zpa,zpb,zpc]
        refine par3_move (v:= ?_) 8 (by simp only[zga,zgb,zgc];rfl) (by kernel_rfl) (by rfl) ?_ (fun _ _ _ h=>h) ?_
        rotate_left
        ·(intro w9;go_simp;try with_reducible rfl)
        simp only[Act.put,zpa,zpb,zpc]
        refine par3_one 9 (by simp only[zga,zgb,zgc];rfl) (by kernel_rfl) (by rfl) ?_
        refine owp_val (v:= ?_) (w1:= ?_) ?_ ?_
        rotate_left 2
        ·(go_simp;constructor<;>rfl)
        refine⟨fun s _=>s.alloc s.size _, ?_⟩
        simp only[Act.put,zpa,zpb,zpc]
        have HLT18:=Lib.hid (World.rowIs.lt HR18.out)
        have HR18:=Lib.hid (World.rowIs.alloc HR18.out (.cells #[.int .i64 0, .int .i64 0] 51))
        have HR17:=Lib.hid (World.rowIs_alloc W10 #[.int .i64 0, .int .i64 0] 51 (ptF ⟨0,0⟩) (ptF_get ⟨0,0⟩))
        have HB17:=Lib.hid (show wr.heap.size≤W10.heap.size from HT10.out.size)
        have HT11:=Lib.hid (HT10.out.alloc HT10.out.size (.cells #[.int .i64 0, .int .i64 0] 51))
        refine par3_nm (fun W11 hW9=> ?_)
        rw[←hW9] at HT11 HR18 HR17
        clear hW9
        have HL17:=Lib.hid (show W10.heap.size≠W8.heap.size from by first|(have:=HLT17.out;omega)|(have:=HLT18.out;omega))
        have hne:=HL17.out
        have hne2:=Ne.symm hne
        have f17:=fun i=>World.rowIs.frozen HR17.out i
        have f18:=fun i=>World.rowIs.frozen HR18.out i
        have u0:=World.rowIs.cell HR17.out (i:=0) (by decide)
        have u1:=World.rowIs.cell HR17.out (i:=1) (by decide)
        have u2:=World.rowIs.cell HR18.out (i:=0) (by decide)
        have u3:=World.rowIs.cell HR18.out (i:=1) (by decide)
        refine par3_one 11 (by simp only[zga,zgb,zgc];rfl) (by kernel_rfl) (by rfl) ?_
        refine owp_skip (w1:= ?_) ?_ ?_
        rotate_left
        ·(go_simp;first|rfl|(constructor<;>rfl))
        refine⟨fun s _=>(s.setCell HB17.out _).setCell HB17.out _, ?_⟩
        simp only[Act.put,zpa,zpb,zpc]
        refine par3_one 12 (by simp only[zga,zgb,zgc];rfl) (by kernel_rfl) (by rfl) ?_
        refine owp_skip (w1:= ?_) ?_ ?_
        rotate_left
        ·(go_simp;first|rfl|(constructor<;>rfl))
        refine⟨fun s _=>(s.setCell HB18.out _).setCell HB18.out _, ?_⟩
        simp only[Act.put,zpa,zpb,zpc]
        refine par3_tail _ (by simp only[List.drop_succ_cons,List.drop_zero];rfl) (by kernel_rfl) ?_
        go_wp2_with fail
        refine NoPanic.normal ?_
        go_step
        go_step
        go_meet
        refine⟨_,rfl, ?_,HB17.out,(((HT11.out.setCell HB17.out _).setCell HB17.out _).setCell HB18.out _).setCell HB18.out _⟩
        refine World.rowIs.setOther (World.rowIs.setOther (World.rowIs.congr (World.rowIs.set (World.rowIs.set HR17.out 0 _) 1 _) (fun i hi=> ?_)) (show W10.heap.size≠W8.heap.size from HL17.out) _) (show W10.heap.size≠W8.heap.size from HL17.out) _
        rcases i with _|_|i<;>first|rfl|exact absurd hi (by show¬(i+2<2);omega)
       ·skip
        refine owp_val (v:= ?_) (w1:= ?_) ?_ ?_
        rotate_left 2
        ·(go_simp;constructor<;>rfl)
        refine⟨fun s _=>s.alloc s.size _, ?_⟩
        simp only[Act.put,zpa,zpb,zpc]
        have HLT18:=Lib.hid (World.rowIs.lt HR18.out)
        have HR18:=Lib.hid (World.rowIs.alloc HR18.out (.cells #[.int .i64 0, .int .i64 0] 51))
        have HR17:=Lib.hid (World.rowIs_alloc W9 #[.int .i64 0, .int .i64 0] 51 (ptF ⟨0,0⟩) (ptF_get ⟨0,0⟩))
        have HB17:=Lib.hid (show wr.heap.size≤W9.heap.size from HT9.out.size)
        have HT10:=Lib.hid (HT9.out.alloc HT9.out.size (.cells #[.int .i64 0, .int .i64 0] 51))
        refine par3_nm (fun W10 hW9=> ?_)
        rw[←hW9] at HT10 HR18 HR17
        clear hW9
        refine par3_one 4 (by simp only[zga,zgb,zgc];rfl) (by kernel_rfl) (by rfl) ?_
        refine owp_call (by go_simp;constructor<;>rfl) ?_
        refine(HEN _ HT10.out).out.mono ?_
        rintro x W11 ⟨rfl,hb9⟩
        have HT11:=Lib.hid (below_next HT10.out HT10.out.size hb9)
        have HR17:=Lib.hid (rowIs_touch HR17.out (Touch.of_below (F:=[]) hb9) (by simp))
        have HR18:=Lib.hid (rowIs_touch HR18.out (Touch.of_below (F:=[]) hb9) (by simp))
        refine⟨_,rfl,fun _ _=>HT11.out, ?_⟩
        clear hb9
        simp only[Act.put,zpa,zpb,zpc]
        refine par3_move (v:= ?_) 5 (by simp only[zga,zgb,zgc];rfl) (by kernel_rfl) (by rfl) ?_ (fun _ _ _ h=>h) ?_
        rotate_left
        ·(intro w9;go_simp;try with_reducible rfl)
        simp only[Act.put,zpa,zpb,zpc]
        refine par3_move (v:= ?_) 6 (by simp only[zga,zgb,zgc];rfl) (by kernel_rfl) (by rfl) ?_ (fun _ _ _ h=>h) ?_
        rotate_left
        ·(intro w9;go_simp;try with_reducible rfl)
        simp only[Act.put,zpa,zpb,zpc]
        refine par3_move (v:= ?_) 7 (by simp only[zga,zgb,zgc];rfl) (by kernel_rfl) (by rfl) ?_ (fun _ _ _ h=>h) ?_
        rotate_left
        ·(intro w9;go_simp;try with_reducible rfl)
        simp only[Act.put,zpa,zpb,zpc]
        refine par3_move (v:= ?_) 8 (by simp only[zga,zgb,zgc];rfl) (by kernel_rfl) (by rfl) ?_ (fun _ _ _ h=>h) ?_
        rotate_left
        ·(intro w9;go_simp;try with_reducible rfl)
        simp only[Act.put,zpa,zpb,zpc]
        have HL17:=Lib.hid (show W9.heap.size≠W8.heap.size from by first|(have:=HLT17.out;omega)|(have:=HLT18.out;omega))
        have hne:=HL17.out
        have hne2:=Ne.symm hne
        have f17:=fun i=>World.rowIs.frozen HR17.out i
        have f18:=fun i=>World.rowIs.frozen HR18.out i
        have u0:=World.rowIs.cell HR17.out (i:=0) (by decide)
        have u1:=World.rowIs.cell HR17.out (i:=1) (by decide)
        have u2:=World.rowIs.cell HR18.out (i:=0) (by decide)
        have u3:=World.rowIs.cell HR18.out (i:=1) (by decide)
        refine par3_one 11 (by simp only[zga,zgb,zgc];rfl) (by kernel_rfl) (by rfl) ?_
        refine owp_skip (w1:= ?_) ?_ ?_
        rotate_left
        ·(go_simp;first|rfl|(constructor<;>rfl))
        refine⟨fun s _=>(s.setCell HB17.out _).setCell HB17.out _, ?_⟩
        simp only[Act.put,zpa,zpb,zpc]
        refine par3_one 12 (by simp only[zga,zgb,zgc];rfl) (by kernel_rfl) (by rfl) ?_
        refine owp_skip (w1:= ?_) ?_ ?_
        rotate_left
        ·(go_simp;first|rfl|(constructor<;>rfl))
        refine⟨fun s _=>(s.setCell HB18.out _).setCell HB18.out _, ?_⟩
        simp only[Act.put,zpa,zpb,zpc]
        refine par3_tail _ (by simp only[List.drop_succ_cons,List.drop_zero];rfl) (by kernel_rfl) ?_
        go_wp2_with fail
        refine NoPanic.normal ?_
        go_step
        go_step
        go_meet
        refine⟨_,rfl, ?_,HB17.out,(((HT11.out.setCell HB17.out _).setCell HB17.out _).setCell HB18.out _).setCell HB18.out _⟩
        refine World.rowIs.setOther (World.rowIs.setOther (World.rowIs.congr (World.rowIs.set (World.rowIs.set HR17.out 0 _) 1 _) (fun i hi=> ?_)) (show W9.heap.size≠W8.heap.size from HL17.out) _) (show W9.heap.size≠W8.heap.size from HL17.out) _
        rcases i with _|_|i<;>first|rfl|exact absurd hi (by show¬(i+2<2);omega)
     case rest=>
     obtain⟨b17,rfl,hr17,hle17,hbx⟩:=hcut
     obtain⟨wq,rfl⟩: ∃x:World,x=wr:=⟨_,rfl⟩
     have HR17:=Lib.hid (show wc.rowIs b17 51 2 (ptF (leastK p L 0)) from HLK0.out▸hr17)
     have H17:=Lib.hid hle17
     have HBX:=Lib.hid hbx
     have HC0:=Lib.hid c0
     have HC1:=Lib.hid c1
     clear hr17 hle17 hbx c0 c1 hcz hgiw hh0 hL2 HEN HLK0
     go_wp2_with fail
     go_loopw [102] (fun i wx=> ∃t,t≤L.length∧i= .int .i64 t∧wx.rowIs b17 51 2 (ptF (leastK p L t))∧Below wq.heap.size wq wx) (fun i _=>L.length - (intOf i).toNat)
     case atStart=>exact⟨0,Nat.zero_le _,rfl,HR17.out,HBX.out⟩
     case round=>
      clear HR17 HBX
      obtain⟨t,htL,rfl,hr,hbx⟩:=hrel
      have hsz:=hbx.size
      have hll:=HLL.out
      by_cases htl:t<L.length
      ·skip
       obtain⟨h,hh⟩: ∃h,L[t]? =some h:=⟨_,List.getElem?_eq_getElem htl⟩
       obtain⟨q0,q1⟩:=(HAT.out.below hbx hg1w) t h hh
       simp only[Nat.zero_add] at q0 q1
       have k0:=(hbx.cell (p:=⟨w.heap.size,0,none⟩) HPS.out).trans HC0.out
       have k1:=(hbx.cell (p:=⟨w.heap.size,1,none⟩) HPS.out).trans HC1.out
       obtain⟨⟨mx,my⟩,hm⟩: ∃a,a=leastK p L t:=⟨_,rfl⟩
       obtain⟨⟨ax,ay⟩,hA⟩: ∃a,a=ptH p h:=⟨_,rfl⟩
       obtain⟨⟨bx,by_⟩,hB2⟩: ∃a,a=ptH p (twinH h):=⟨_,rfl⟩
       rw[←hm] at hr
       have HS:=Lib.hid (show leastK p L (t+1)=if lessB ⟨ax,ay⟩ ⟨mx,my⟩=true then⟨ax,ay⟩ else⟨mx,my⟩ from by rw[leastK_succ hh, ←hm, ←hA])
       have HR17:=Lib.hid hr
       have hgy:g1<wr.heap.size:=by omega
       have hps:w.heap.size<wr.heap.size:=by have:=HPS.out;omega
       have HE2:=fun(W1:World) (hb:Below wr.heap.size wr W1)=>HENP h (HMEM.out h (List.mem_of_getElem? hh)) W1 (below_step hb hbx)
       rw[←hA, ←hB2] at HE2
       simp only[ptV] at HE2
       have HBX:=Lib.hid hbx
       have HTL:=Lib.hid htl
       clear hh hm hA hB2 hr hbx
       go_wp2_with fail
       refine(HE2 _ (below_alloc (Below.refl _ _))).out.mono ?_
       rintro e w3 ⟨rfl,hb3⟩
       have HB3:=Lib.hid (below_step hb3 (below_alloc (Below.refl wr.heap.size wr)))
       have HR3:=Lib.hid (rowIs_touch HR17.out (Touch.of_below (F:=[]) HB3.out) (by simp))
       clear hb3 q0 q1 k0 k1
       have u0:=World.rowIs.cell HR3.out (i:=0) (by decide)
       have u1:=World.rowIs.cell HR3.out (i:=1) (by decide)
       have hl3:=World.rowIs.lt HR3.out
       go_wp2_with fail
       refine(less_any ⟨ax,ay⟩ ⟨mx,my⟩ _).mono ?_
       rintro e w4 ⟨rfl,hb4⟩
       have HR22:=Lib.hid (rowIs_touch (World.rowIs.alloc (World.rowIs_alloc w3 #[.int .i64 ax, .int .i64 ay] 51 (ptF ⟨ax,ay⟩) (ptF_get ⟨ax,ay⟩)) (.cells #[.int .i64 bx, .int .i64 by_] 51)) (Touch.of_below (F:=[]) hb4) (by simp))
       have HB4:=Lib.hid (below_step hb4 (below_alloc (below_alloc HB3.out)))
       have HR4:=Lib.hid (rowIs_touch HR17.out (Touch.of_below (F:=[]) HB4.out) (by simp))
       clear hb4 u0 u1 hl3
       have u0:w4.cell? ⟨b17,0,none⟩=some (.int .i64 mx):=World.rowIs.cell HR4.out (i:=0) (by decide)
       have u1:w4.cell? ⟨b17,1,none⟩=some (.int .i64 my):=World.rowIs.cell HR4.out (i:=1) (by decide)
       have f17:=fun i=>World.rowIs.frozen HR4.out i
       have hl4:=World.rowIs.lt HR4.out
       have v0:w4.cell? ⟨w3.heap.size,0,none⟩=some (.int .i64 ax):=World.rowIs.cell HR22.out (i:=0) (by show 0<2;decide)
       have v1:w4.cell? ⟨w3.heap.size,1,none⟩=some (.int .i64 ay):=World.rowIs.cell HR22.out (i:=1) (by show 1<2;decide)
       cases hless:lessB ⟨ax,ay⟩ ⟨mx,my⟩
       ·have HN:=Lib.hid (show leastK p L (t+1)=⟨mx,my⟩ from HS.out.trans (if_neg (by rw[hless];decide)))
        simp only[hless]
        clear hless
        go_wp2_with fail
        go_roundw
        case rel=>
         exact⟨t+1,HTL.out,by go_num,HN.out▸HR4.out,below_step HB4.out HBX.out⟩
        case measure=>have:=HTL.out;simp[intOf];omega
       ·have HN:=Lib.hid (show leastK p L (t+1)=⟨ax,ay⟩ from HS.out.trans (if_pos hless))
        simp only[hless]
        clear hless
        go_wp2_with fail
        go_roundw
        case rel=>
         refine⟨t+1,HTL.out,by go_num,HN.out▸World.rowIs.congr (World.rowIs.set (World.rowIs.set HR4.out 0 _) 1 _) (fun i hi=> ?_),((below_step HB4.out HBX.out).setCell H17.out _).setCell H17.out _⟩
         rcases i with _|_|i<;>first|rfl|exact absurd hi (by show¬(i+2<2);omega)
        case measure=>have:=HTL.out;simp[intOf];omega
      ·skip
       obtain rfl:t=L.length:=by omega
       obtain⟨⟨mx,my⟩,hm⟩: ∃a,a=leastK p L L.length:=⟨_,rfl⟩
       rw[←hm] at hr
       have HM:=Lib.hid (show leastPt p L=⟨mx,my⟩ from by rw[hm];unfold leastK leastPt;rw[List.take_length])
       have HMI:=Lib.hid (show inB ⟨mx,my⟩=true from by rw[hm];exact leastK_in HR.out HMEM.out HHDH.out _)
       have HR17:=Lib.hid hr
       have IW:=Lib.hid (HI.out.below hbx)
       obtain⟨e,he⟩: ∃e,e=findE p.es h0.edge:=⟨_,rfl⟩
       have HEE:=Lib.hid he
       obtain⟨p0,p1,hbw⟩:=(HCW _ IW.out.tch).out
       have hgr0:wr.cell? ⟨g1,0,none⟩=some (.int .i64 h0.edge):=((HAT.out.below hbx hg1w) 0 h0 (by rw[HL0.out];rfl)).1
       have HED:=fun(W:World) (hb:Below wr.heap.size wr W)=>Lib.hid (show Calls Try.prog 71 #[.agg #[.slice va vn vc, .slice ea en ec], .int .i64 h0.edge] W fun x w'=>x= .returned (.tuple #[.agg #[.int .i64 e.id, .int .i64 e.a, .int .i64 e.b], .bool (hasE p.es h0.edge)])∧Below W.heap.size W w' from by
        rw[he]
        have h9:=hbw.size
        exact edge_any (ec:=ec) (HEI.out.below ((hbw.trans (hb.mono h9)).mono hB)) (Nat.le_trans hB (Nat.le_trans h9 hb.size)) (by omega) (.slice va vn vc) ⟨_,_,_,rfl⟩ h0.edge)
       have HYP:=Lib.hid (show wr.cell? ⟨w.heap.size,0,none⟩=some (.slice va vn vc)∧wr.cell? ⟨w.heap.size,1,none⟩=some (.slice ea en ec)∧wr.cell? ⟨g1,0,none⟩=some (.int .i64 h0.edge)∧w.heap.size<wr.heap.size∧g1<wr.heap.size from⟨p0,p1,hgr0,by have:=HPS.out;omega,by omega⟩)
       have hL2:0<L.length:=by rw[HL0.out];simp
       have hL1:(0:Int)<(L.length:Int):=by omega
       have HHX:=Lib.hid (HHD.out.touch (Touch.of_below (F:=[]) hbx) HI.out.tch.size (by simp))
       clear hm he hr hbx p0 p1 hbw hgr0 htl htL hll
       go_upto_region 29 with fail
       go_cut [25,26] (fun p25 _ wx=> ∃b25,p25= .pointer (some ⟨b25,0,none⟩)∧wx.rowIs b25 63 3 (edF e)∧wr.heap.size≤b25∧Below wr.heap.size wr wx)
       case first=>
        go_wp2_with fail
        have HY:=fun(w':World) (t:Below wr.heap.size wr w')=>Lib.hid (show w'.cell? ⟨w.heap.size,0,none⟩=some (.slice va vn vc)∧w'.cell? ⟨w.heap.size,1,none⟩=some (.slice ea en ec)∧w'.cell? ⟨g1,0,none⟩=some (.int .i64 h0.edge) from
         ⟨(t.cell (p:=⟨w.heap.size,0,none⟩) HYP.out.2.2.2.1).trans HYP.out.1,(t.cell (p:=⟨w.heap.size,1,none⟩) HYP.out.2.2.2.1).trans HYP.out.2.1,(t.cell (p:=⟨g1,0,none⟩) HYP.out.2.2.2.2).trans HYP.out.2.2.1⟩)
        have HS0:=Lib.hid (Below.refl wr.heap.size wr).drew
        refine wp_region_noPanic ?_
        refine wp_region_par3 11 11 (by kernel_rfl) (by kernel_rfl) (by simp) (by omega) (by kernel_rfl) (by kernel_rfl) (fun w':World=>Below wr.heap.size wr w') ?_
        refine par3_read (v:= ?_) 0 (by simp only[zga,zgb,zgc];rfl) (by kernel_rfl) (by rfl) HS0.out ?_ (fun _ _ _ h=>h) ?_
        rotate_left
        ·(intro w9 hSw;first|(obtain⟨y0,y1,y2,y3⟩:=(HY w9 hSw).out;clear hSw;go_simp;try with_reducible rfl;done)|(obtain⟨y0,y1,y2⟩:=(HY w9 hSw).out;clear hSw;go_simp;try with_reducible rfl))
        simp only[Act.put,zpa,zpb,zpc]
        refine par3_move (v:= ?_) 1 (by simp only[zga,zgb,zgc];rfl) (by kernel_rfl) (by rfl) ?_ (fun _ _ _ h=>h) ?_
        rotate_left
        ·(intro w9;go_simp;try with_reducible rfl)
        simp only[Act.put,zpa,zpb,zpc]
        refine par3_move (v:= ?_) 2 (by simp only[zga,zgb,zgc];rfl) (by kernel_rfl) (by rfl) ?_ (fun _ _ _ h=>h) ?_
        rotate_left
        ·(intro w9;go_simp;try with_reducible rfl)
        simp only[Act.put,zpa,zpb,zpc]
        refine par3_move (v:= ?_) 3 (by simp only[zga,zgb,zgc];rfl) (by kernel_rfl) (by rfl) ?_ (fun _ _ _ h=>h) ?_
        rotate_left
        ·(intro w9;go_simp;try with_reducible rfl)
        simp only[Act.put,zpa,zpb,zpc]
        refine par3_read (v:= ?_) 4 (by simp only[zga,zgb,zgc];rfl) (by kernel_rfl) (by rfl) HS0.out ?_ (fun _ _ _ h=>h) ?_
        rotate_left
        ·(intro w9 hSw;first|(obtain⟨y0,y1,y2,y3⟩:=(HY w9 hSw).out;clear hSw;go_simp;try with_reducible rfl;done)|(obtain⟨y0,y1,y2⟩:=(HY w9 hSw).out;clear hSw;go_simp;try with_reducible rfl))
        simp only[Act.put,zpa,zpb,zpc]
        refine par3_nm (fun W8 hW8=> ?_)
        rw[←hW8] at HS0
        clear hW8
        refine par3_two 5 9 (by simp only[zga,zgb,zgc];rfl) (by simp only[zga,zgb,zgc];rfl) (by kernel_rfl) (by rfl) (by rfl) ?_ ?_
        ·refine owp_call (by go_simp;constructor<;>rfl) ?_
         refine(HED _ HS0.out).out.mono ?_
         rintro x W9 ⟨rfl,hb9⟩
         have HS9:=Lib.hid (below_next HS0.out HS0.out.size hb9)
         refine⟨_,rfl,fun _ _=>HS9.out, ?_⟩
         clear hb9
         simp only[Act.put,zpa,zpb,zpc]
         refine par3_move (v:= ?_) 6 (by simp only[zga,zgb,zgc];rfl) (by kernel_rfl) (by rfl) ?_ (fun _ _ _ h=>h) ?_
         rotate_left
         ·(intro w9;go_simp;try with_reducible rfl)
         simp only[Act.put,zpa,zpb,zpc]
         refine par3_move (v:= ?_) 7 (by simp only[zga,zgb,zgc];rfl) (by kernel_rfl) (by rfl) ?_ (fun _ _ _ h=>h) ?_
         rotate_left
         ·(intro w9;go_simp;try with_reducible rfl)
         simp only[Act.put,zpa,zpb,zpc]
         refine par3_move (v:= ?_) 8 (by simp only[zga,zgb,zgc];rfl) (by kernel_rfl) (by rfl) ?_ (fun _ _ _ h=>h) ?_
         rotate_left
         ·(intro w9;go_simp;try with_reducible rfl)
         simp only[Act.put,zpa,zpb,zpc]
         refine par3_one 9 (by simp only[zga,zgb,zgc];rfl) (by kernel_rfl) (by rfl) ?_
         refine owp_val (v:= ?_) (w1:= ?_) ?_ ?_
         rotate_left 2
         ·(go_simp;constructor<;>rfl)
         refine⟨fun s _=>s.alloc s.size _, ?_⟩
         simp only[Act.put,zpa,zpb,zpc]
         refine par3_one 10 (by simp only[zga,zgb,zgc];rfl) (by kernel_rfl) (by rfl) ?_
         refine owp_skip (w1:= ?_) ?_ ?_
         rotate_left
         ·(go_simp;first|rfl|(constructor<;>rfl))
         refine⟨fun s _=>HS9.out.alloc HS9.out.size _, ?_⟩
         simp only[Act.put,zpa,zpb,zpc]
         refine par3_tail _ (by simp only[List.drop_succ_cons,List.drop_zero];rfl) (by kernel_rfl) ?_
         go_wp2_with fail
         refine NoPanic.normal ?_
         go_step
         go_step
         go_meet
         exact⟨_,rfl,World.rowIs_alloc W9 #[.int .i64 e.id, .int .i64 e.a, .int .i64 e.b] 63 (edF e) (fun i hi=>by rcases i with _|_|_|i<;>first|rfl|(simp at hi;omega)),HS9.out.size,HS9.out.alloc HS9.out.size _⟩
        ·refine owp_val (v:= ?_) (w1:= ?_) ?_ ?_
         rotate_left 2
         ·(go_simp;constructor<;>rfl)
         refine⟨fun s _=>s.alloc s.size _, ?_⟩
         simp only[Act.put,zpa,zpb,zpc]
         have HR9:=Lib.hid (World.rowIs_alloc W8 #[.int .i64 0, .int .i64 0, .int .i64 0] 63 (edF ⟨0,0,0⟩) (fun i hi=>by rcases i with _|_|_|i<;>first|rfl|(simp at hi;omega)))
         have HS9:=Lib.hid (HS0.out.alloc HS0.out.size (.cells #[.int .i64 0, .int .i64 0, .int .i64 0] 63))
         refine par3_nm (fun W9 hW9=> ?_)
         rw[←hW9] at HR9 HS9
         clear hW9
         refine par3_one 5 (by simp only[zga,zgb,zgc];rfl) (by kernel_rfl) (by rfl) ?_
         refine owp_call (by go_simp;constructor<;>rfl) ?_
         refine(HED _ HS9.out).out.mono ?_
         rintro x W10 ⟨rfl,hb10⟩
         have HR10:=Lib.hid (rowIs_touch HR9.out (Touch.of_below (F:=[]) hb10) (by simp))
         have HS10:=Lib.hid (below_next HS9.out HS9.out.size hb10)
         refine⟨_,rfl,fun _ _=>HS10.out, ?_⟩
         clear hb10
         simp only[Act.put,zpa,zpb,zpc]
         refine par3_move (v:= ?_) 6 (by simp only[zga,zgb,zgc];rfl) (by kernel_rfl) (by rfl) ?_ (fun _ _ _ h=>h) ?_
         rotate_left
         ·(intro w9;go_simp;try with_reducible rfl)
         simp only[Act.put,zpa,zpb,zpc]
         refine par3_move (v:= ?_) 7 (by simp only[zga,zgb,zgc];rfl) (by kernel_rfl) (by rfl) ?_ (fun _ _ _ h=>h) ?_
         rotate_left
         ·(intro w9;go_simp;try with_reducible rfl)
         simp only[Act.put,zpa,zpb,zpc]
         refine par3_move (v:= ?_) 8 (by simp only[zga,zgb,zgc];rfl) (by kernel_rfl) (by rfl) ?_ (fun _ _ _ h=>h) ?_
         rotate_left
         ·(intro w9;go_simp;try with_reducible rfl)
         simp only[Act.put,zpa,zpb,zpc]
         have f0:=World.rowIs.frozen HR10.out 0
         have f1:=World.rowIs.frozen HR10.out 1
         have f2:=World.rowIs.frozen HR10.out 2
         have u0:=World.rowIs.cell HR10.out (i:=0) (by decide)
         have u1:=World.rowIs.cell HR10.out (i:=1) (by decide)
         have u2:=World.rowIs.cell HR10.out (i:=2) (by decide)
         refine par3_one 10 (by simp only[zga,zgb,zgc];rfl) (by kernel_rfl) (by rfl) ?_
         refine owp_skip (w1:= ?_) ?_ ?_
         rotate_left
         ·(go_simp;first|rfl|(constructor<;>rfl))
         refine⟨fun s _=>((s.setCell HS0.out.size _).setCell HS0.out.size _).setCell HS0.out.size _, ?_⟩
         simp only[Act.put,zpa,zpb,zpc]
         refine par3_tail _ (by simp only[List.drop_succ_cons,List.drop_zero];rfl) (by kernel_rfl) ?_
         go_wp2_with fail
         refine NoPanic.normal ?_
         go_step
         go_step
         go_meet
         refine⟨_,rfl,World.rowIs.congr (World.rowIs.set (World.rowIs.set (World.rowIs.set HR10.out 0 _) 1 _) 2 _) (fun i hi=> ?_),HS0.out.size,((HS10.out.setCell HS0.out.size _).setCell HS0.out.size _).setCell HS0.out.size _⟩
         rcases i with _|_|_|i<;>first|rfl|omega
       case rest=>
       obtain⟨b25,rfl,hr25,hle25,hbx⟩:=hcut
       obtain⟨wz,rfl⟩: ∃x:World,x=wc:=⟨_,rfl⟩
       have HR25:=Lib.hid hr25
       have HR7:=Lib.hid (rowIs_touch HR17.out (Touch.of_below (F:=[]) hbx) (by simp))
       have IZ:=Lib.hid (IW.out.below hbx)
       have HHZ:=Lib.hid (HHX.out.touch (Touch.of_below (F:=[]) hbx) IW.out.tch.size (by simp))
       have HLB:=Lib.hid (show mu<b17∧mu<b25 from by
        have h1:=HMU.out
        have h2:=H17.out
        have h3:=HI.out.tch.size
        have h4:=hsz
        omega)
       have HFA:=Lib.hid (show fitI e.a from by
        rw[HEE.out]
        unfold findE
        cases hq:p.es.find? (isE h0.edge) with
        |none=>exact(show fitI 0 from⟨by decide,by decide⟩)
        |some x=>exact(HF.out.es x (List.mem_of_find?_eq_some hq)).2.1)
       have HIX:=Lib.hid (idx_lt (p:=p) g ⟨mx,my⟩ (g e.a))
       obtain⟨I,hI⟩: ∃I:Nat,I=idxI p g L:=⟨_,rfl⟩
       have HII:=Lib.hid hI
       have HIE:=Lib.hid (show I<(outersP p).length+1∧(I:Int)=1+aroundP ((orsP p).map (ouOf g)) ⟨mx,my⟩ (g e.a) from by
        rw[hI]
        unfold idxI
        rw[HM.out,frA_find HL0.out, ←HEE.out]
        exact HIX.out)
       have HWZ:=Lib.hid (show wr.heap.size≤wz.heap.size from hbx.size)
       have HSZ:=Lib.hid hsz
       have HJN:=Lib.hid hlj
       clear hI hr25 hle25 hbx HIX hL2 hL1
       go_upto_region 30 with fail
       go_cut [27] (fun p27 wx=>p27= .int .i64 (I:Nat)∧RS w Wc wx g (w2.heap.size+1) w2.heap.size bu bf mu bs (.slice (some ⟨gb,0,none⟩) NR capb) (.slice vra NO vrc) (.slice (some ⟨gi,0,none⟩) NI vic) (rmI p g j) ((orsP p).map (ouOf g)) (innersP p) H VI nilV ZI Y Zn∧Touch [mu] wz wx)
       case first=>
        go_wp2_with fail
        have HY:=fun(w':World) (t:Touch [mu] wz w')=>Lib.hid (show w'.cell? ⟨b17,0,none⟩=some (.int .i64 mx)∧w'.cell? ⟨b17,1,none⟩=some (.int .i64 my)∧w'.cell? ⟨b25,1,none⟩=some (.int .i64 e.a) from by
         have r1:=rowIs_touch HR7.out t (by have:=HLB.out;simp;omega)
         have r2:=rowIs_touch HR25.out t (by have:=HLB.out;simp;omega)
         exact⟨World.rowIs.cell r1 (i:=0) (by decide),World.rowIs.cell r1 (i:=1) (by decide),World.rowIs.cell r2 (i:=1) (by decide)⟩)
        have HS0:=Lib.hid (Touch.refl [mu] wz).drew
        have ID:=Lib.hid (IZ.out.below (Below.refl wz.heap.size wz).drew)
        refine wp_region_noPanic ?_
        refine wp_region_par3 8 8 (by kernel_rfl) (by kernel_rfl) (by simp) (by omega) (by kernel_rfl) (by kernel_rfl) (fun w':World=>Touch [mu] wz w') ?_
        refine par3_move (v:= ?_) 0 (by simp only[zga,zgb,zgc];rfl) (by kernel_rfl) (by rfl) ?_ (fun _ _ _ h=>h) ?_
        rotate_left
        ·(intro w9;go_simp;try with_reducible rfl)
        simp only[Act.put,zpa,zpb,zpc]
        refine par3_read (v:= ?_) 1 (by simp only[zga,zgb,zgc];rfl) (by kernel_rfl) (by rfl) HS0.out ?_ (fun _ _ _ h=>h) ?_
        rotate_left
        ·(intro w9 hSw;first|(obtain⟨y0,y1,y2,y3⟩:=(HY w9 hSw).out;clear hSw;go_simp;try with_reducible rfl;done)|(obtain⟨y0,y1,y2⟩:=(HY w9 hSw).out;clear hSw;go_simp;try with_reducible rfl))
        simp only[Act.put,zpa,zpb,zpc]
        refine par3_move (v:= ?_) 2 (by simp only[zga,zgb,zgc];rfl) (by kernel_rfl) (by rfl) ?_ (fun _ _ _ h=>h) ?_
        rotate_left
        ·(intro w9;go_simp;try with_reducible rfl)
        simp only[Act.put,zpa,zpb,zpc]
        refine par3_move (v:= ?_) 3 (by simp only[zga,zgb,zgc];rfl) (by kernel_rfl) (by rfl) ?_ (fun _ _ _ h=>h) ?_
        rotate_left
        ·(intro w9;go_simp;try with_reducible rfl)
        simp only[Act.put,zpa,zpb,zpc]
        refine par3_read (v:= ?_) 4 (by simp only[zga,zgb,zgc];rfl) (by kernel_rfl) (by rfl) HS0.out ?_ (fun _ _ _ h=>h) ?_
        rotate_left
        ·(intro w9 hSw;first|(obtain⟨y0,y1,y2,y3⟩:=(HY w9 hSw).out;clear hSw;go_simp;try with_reducible rfl;done)|(obtain⟨y0,y1,y2⟩:=(HY w9 hSw).out;clear hSw;go_simp;try with_reducible rfl))
        simp only[Act.put,zpa,zpb,zpc]
        refine par3_one 5 (by simp only[zga,zgb,zgc];rfl) (by kernel_rfl) (by rfl) ?_
        refine owp_call (by go_simp;constructor<;>rfl) ?_
        refine(ID.out.find e.a HFA.out).mono ?_
        rintro x w9 ⟨rfl,i9,t9⟩
        refine⟨_,rfl,fun s _=>s.trans t9 (fun b hb=> .inl hb), ?_⟩
        have I9:=Lib.hid i9
        have HT9:=Lib.hid (HS0.out.trans t9 (fun b hb=> .inl hb))
        clear i9 t9
        simp only[Act.put,zpa,zpb,zpc]
        refine par3_one 6 (by simp only[zga,zgb,zgc];rfl) (by kernel_rfl) (by rfl) ?_
        refine owp_call (by go_simp;constructor<;>rfl) ?_
        refine(raround_any (q:=⟨mx,my⟩) (I9.out.ou.in_ HNO.out.symm) (Nat.le_refl _) (HR.out.ous_ok g) HMI.out (by have h1:=HNO.out;have h2:=HON.out;rw[List.length_map] at h1;unfold orsP at h1;rw[List.length_map] at h1;omega)).mono ?_
        rintro x w10 ⟨rfl,hb10⟩
        have I10:=Lib.hid (I9.out.below hb10)
        have HT10:=Lib.hid (HT9.out.trans (Touch.of_below (F:=[mu]) hb10) (fun b hb=> .inl hb))
        refine⟨_,rfl,fun _ _=>HT10.out, ?_⟩
        clear hb10
        generalize hq:aroundP ((orsP p).map (ouOf g)) ⟨mx,my⟩ (g e.a)=Q
        have hIQ:(I:Int)=1+Q:=by rw[←hq];exact HIE.out.2
        have hIb:I≤4096:=by have:=HIE.out.1;have:=HON.out;omega
        obtain rfl:Q=(I:Int) - 1:=by omega
        clear hq hIQ
        have hwI:IntKind.i64.wrap (1+((I:Int) - 1))=(I:Int):=by rw[show 1+((I:Int) - 1)=I by omega];exact IntWalk.i64_in _ (by omega)
        simp only[Act.put,zpa,zpb,zpc]
        refine par3_move (v:= ?_) 7 (by simp only[zga,zgb,zgc];rfl) (by kernel_rfl) (by rfl) ?_ (fun _ _ _ h=>h) ?_
        rotate_left
        ·(intro w9;go_simp;try with_reducible rfl)
        simp only[Act.put,zpa,zpb,zpc]
        refine par3_tail _ (by simp only[List.drop_succ_cons,List.drop_zero];rfl) (by kernel_rfl) ?_
        go_wp2_with fail
        refine NoPanic.normal ?_
        go_step
        go_step
        go_meet
        exact⟨rfl,I10.out,HT10.out⟩
       case rest=>
       obtain⟨rfl,hI,ht⟩:=hcut
       obtain⟨wv,rfl⟩: ∃x:World,x=wc:=⟨_,rfl⟩
       have I31:=Lib.hid hI
       have HHV:=Lib.hid (HHZ.out.touch ht IZ.out.tch.size (fun b hb=>by have:=HMU.out;simp at hb;omega))
       have HIN2:=Lib.hid (show I<(rmI p g j).length from by rw[rmI_len];exact HIE.out.1)
       have hRJ:(rmI p g j).length=NR:=by rw[rmI_len,HNR.out]
       have HRJ:=Lib.hid hRJ
       have hIN:I<NR:=by rw[←hRJ];exact HIN2.out
       have hIb:NR≤4096:=by have:=HNR.out;have:=HON.out;omega
       have row:=hI.rl.row
       rw[hRJ] at row
       have HROW:=Lib.hid row
       obtain⟨vI,hvI⟩: ∃v,v=VI I:=⟨_,rfl⟩
       have HVV:=Lib.hid hvI
       have c5:wv.cell? ⟨gb,I*3+1,none⟩=some vI:=(addr_add0 gb (I*3+1))▸row.cells (g:=gb) rfl (j:=I*3+1) (u:=vI) (flatMap_get (n:=3) (f:=fun i=>[H i,VI i,nilV i]) (fun _=>rfl) (List.range NR) I 1 I vI (by rw[List.getElem?_range hIN]) (by rw[hvI];rfl))
       have hgb:=(row.lt gb rfl).2
       have hown0:=hI.rl.fi.own I
       rw[←hvI] at hown0
       have HOW:=Lib.hid hown0
       have HZL:=Lib.hid (show(ZI I).length≤2048 from by
        have h1:=(hI.rl.hin I).1
        have h2:=rmI_inner_len (p:=p) g j I
        have h3:=HIN.out
        have h4:=HNI.out
        omega)
       have HSB:=Lib.hid (show bs≤wv.heap.size from by have h1:=HBS.out;have h2:=ht.size;have h3:=HLB.out;have h4:=hsz;have h5:=HWZ.out;omega)
       clear hI ht hRJ row hvI hown0
       have hjb:j≤2048:=by have h1:=HIN.out;have h2:=HNI.out;have h3:=HJN.out;omega
       go_wp2_with (at_builtin;go_loud (refine wpList_append_near _ rfl (.tmp 141) (.tmp 143) 38 rfl bs 33 k0 (.slice none 0 0) 1 24 Try.underlying38 hk hk0 hk1 hk2 rfl (by decide) vI (ZI I).length (ZI I) rfl (HOW.out.alloc _) ⟨wv.heap.size,0,none⟩ 1 1 [.slice (some ⟨g1,0,none⟩) L.length cc1] rfl (by decide) rfl (fun q u hu=>by rw[addr_add0];rcases q with _|q<;>simp at hu;subst hu;simp[World.cell?_alloc_new]) (by simp[Value.oneCell']) (by have:=HZL.out;unfold maxLen;omega) (by have:=HZL.out;omega) (by have:=HSB.out;simp;omega) ?_;intro g9 cap9 w9 hown hgr hat;have hb9:Below wv.heap.size wv (wv.alloc (.cells #[.slice (some ⟨g1,0,none⟩) L.length cc1] 33)):=below_alloc (Below.refl _ _);have k9:=(Touch.of_below (F:=vI.ownBlock.toList) hb9).trans (Touch.of_grown hgr) (fun x hx=> .inl hx);have row9:=ownsRow_touch HROW.out k9 (fun x hx=>by cases hx;exact fun hm=>own_apart HROW.out HOW.out (by decide) (g:=gb) rfl (Option.mem_toList.1 hm));have c9:w9.cell? ⟨gb,I*3+1,none⟩=some vI:=(addr_add0 gb (I*3+1))▸row9.cells (g:=gb) rfl (j:=I*3+1) (u:=vI) (flatMap_get (n:=3) (f:=fun i=>[H i,VI i,nilV i]) (fun _=>rfl) (List.range NR) I 1 I vI (by rw[List.getElem?_range hIN]) (by rw[HVV.out];rfl));have f9:=fun i=>own_fz row9 i;have I9:=Lib.hid (RS.addI (rms:=rmI p g j) (cap:=capb) (gb:=gb) (by rw[HRJ.out];exact I31.out) HIN2.out HHV.out hb9 hown (HVV.out▸hgr) (HVV.out▸hat));have HS9:=Lib.hid k9.size;clear hown hgr hat hb9 k9 row9))
       go_roundw
       case rel=>
        have hr9:=I9.out
        have e1:addI (rmI p g j) I L=rmI p g (j+1):=by rw[HSC.out,HII.out]
        rw[e1,HRJ.out] at hr9
        exact⟨j+1,_,_,HJN.out,by go_num,hr9,by have h1:=HS9.out;have h2:=HSB.out;simp;omega⟩
       case measure=>have h3:=HJN.out;simp[intOf];omega
    ·skip
     have hI:=HI.out
     rw[show j=NI by omega] at hI
     obtain⟨wn,rfl⟩: ∃x:World,x=wr:=⟨_,rfl⟩
     have I6:=Lib.hid (show RS w Wc wn g (w2.heap.size+1) w2.heap.size bu bf mu bs (.slice (some ⟨gb,0,none⟩) NR capb) (.slice vra NO vrc) (.slice via NI vic) (rmV p g 0 0) ((orsP p).map (ouOf g)) (innersP p) H VI nilV ZI Y Zn from by
      have e:rmV p g 0 0=rmI p g NI:=by unfold rmV;rw[HNI.out];rfl
      rw[e];exact hI)
     have hps:w.heap.size<wn.heap.size:=by have:=HMU.out;have:=HX2.out.size;have:=hI.tch.size;omega
     clear HI hI hjN
     go_wp2_with fail
     clear hlj
     go_loopw [151] (fun i wr=> ∃(t:Nat) (VA:Nat→Value),t≤vn∧i= .int .i64 t∧RS w Wc wr g (w2.heap.size+1) w2.heap.size bu bf mu bs (.slice (some ⟨gb,0,none⟩) NR capb) (.slice vra NO vrc) (.slice via NI vic) (rmV p g 0 t) ((orsP p).map (ouOf g)) (innersP p) H VI VA ZI Y Zn∧bs≤wr.heap.size) (fun i _=>vn - (intOf i).toNat)
     case atStart=>exact⟨0,_,Nat.zero_le _,rfl,I6.out,HBS.out⟩
     case round=>
      clear I6 HBS c0 c1 hps
      obtain⟨t,VA,htn,rfl,hI,hbs⟩:=hrel
      have HI:=Lib.hid hI
      have HBS:=Lib.hid hbs
      obtain⟨c0,c1,hbw⟩:=(HCW _ hI.tch).out
      have hps:w.heap.size<wr.heap.size:=by have:=HMU.out;have:=HX2.out.size;have:=hI.tch.size;omega
      clear hI hbs
      by_cases htl:t<vn
      ·obtain⟨vb,off,v,rfl,hvb,hv,e0,e1,e2⟩:=(HVI.out.below (hbw.mono hB)).at_ htl
       have hvw:vb<wr.heap.size:=by omega
       have HVK:=Lib.hid hv
       have HTL:=Lib.hid htl
       have HDG:=fun(W:World) (hb:Below wr.heap.size wr W)=>Lib.hid (degree_any (w:=W) (ec:=ec) (HEI.out.below ((hbw.trans (hb.mono hbw.size)).mono hB)) (Nat.le_trans hB (Nat.le_trans hbw.size hb.size)) (by omega) (.slice (some ⟨vb,off,none⟩) vn vc) ⟨_,_,_,rfl⟩ v.id)
       have HVR:=Lib.hid (HR.out.v t v hv).inr
       obtain⟨d,hd⟩: ∃d,d=deg p.es v.id:=⟨_,rfl⟩
       rw[←hd] at HDG
       have HDD:=Lib.hid hd
       clear hv hd hbw
       go_wp2_with fail
       refine(HDG _ (below_alloc (Below.refl _ _))).out.mono ?_
       rintro e w3 ⟨rfl,hb3⟩
       have HB3:=Lib.hid (below_step hb3 (below_alloc (Below.refl wr.heap.size wr)))
       have I3:=Lib.hid (HI.out.below HB3.out)
       have HV3:=Lib.hid (rowIs_touch (World.rowIs_alloc wr #[.int .i64 v.id, .int .i64 v.at_.x, .int .i64 v.at_.y] 53 (vxF9 v) (fun i hi=>by rcases i with _|_|_|i<;>first|rfl|(simp at hi;omega))) (Touch.of_below (F:=[]) hb3) (by simp))
       clear hb3 e0 e1 e2 c0 c1
       by_cases hd0:d=0
       ·skip
        have HDB:=Lib.hid ((deg_zero p.es v.id).1 (HDD.out▸hd0))
        subst hd0
        have v0:w3.cell? ⟨wr.heap.size,0,none⟩=some (.int .i64 v.id):=World.rowIs.cell HV3.out (i:=0) (by show 0<3;decide)
        have v1:w3.cell? ⟨wr.heap.size,1,none⟩=some (.int .i64 v.at_.x):=World.rowIs.cell HV3.out (i:=1) (by show 1<3;decide)
        have v2:w3.cell? ⟨wr.heap.size,1+1,none⟩=some (.int .i64 v.at_.y):=World.rowIs.cell HV3.out (i:=2) (by show 2<3;decide)
        have HIX:=Lib.hid (idx_lt (p:=p) g v.at_ 0)
        obtain⟨I,hIe⟩: ∃I:Nat,I=idxA p g 0 v.at_:=⟨_,rfl⟩
        have HII:=Lib.hid hIe
        have HIE:=Lib.hid (show I<(outersP p).length+1∧(I:Int)=1+aroundP ((orsP p).map (ouOf g)) v.at_ 0 from by
         rw[hIe]
         exact HIX.out)
        clear hIe HIX htl
        go_wp2_with fail
        refine(raround_any (q:=v.at_) (I3.out.ou.in_ HNO.out.symm) (Nat.le_refl _) (HR.out.ous_ok g) HVR.out (by have h1:=HNO.out;have h2:=HON.out;rw[List.length_map] at h1;unfold orsP at h1;rw[List.length_map] at h1;omega)).mono ?_
        rintro e w4 ⟨rfl,hb4⟩
        have I4:=Lib.hid (I3.out.below hb4)
        have HV4:=Lib.hid (rowIs_touch HV3.out (Touch.of_below (F:=[]) hb4) (by simp))
        have HB4:=Lib.hid (below_step hb4 HB3.out)
        clear hb4 v0 v1 v2
        generalize hq:aroundP ((orsP p).map (ouOf g)) v.at_ 0=Q
        have hIQ:(I:Int)=1+Q:=by rw[←hq];exact HIE.out.2
        have hIb:I≤4096:=by have:=HIE.out.1;have:=HON.out;omega
        obtain rfl:Q=(I:Int) - 1:=by omega
        clear hq hIQ
        have hwI:IntKind.i64.wrap (1+((I:Int) - 1))=(I:Int):=by rw[show 1+((I:Int) - 1)=I by omega];exact IntWalk.i64_in _ (by omega)
        have hRJ:(rmV p g 0 t).length=NR:=by rw[rmV_len,HNR.out]
        have HRJ:=Lib.hid hRJ
        have hIN:I<NR:=by rw[HNR.out];exact HIE.out.1
        have hNb:NR≤4096:=by have:=HNR.out;have:=HON.out;omega
        clear hRJ
        go_upto_region 38 with fail
        obtain⟨vA,hvA⟩: ∃v,v=VA I:=⟨_,rfl⟩
        have HVV:=Lib.hid hvA
        have HS0:=Lib.hid (Touch.refl vA.ownBlock.toList w4).drew
        have ID:=Lib.hid (I4.out.below (Below.refl w4.heap.size w4).drew)
        have row:=ID.out.rl.row
        rw[HRJ.out] at row
        have hown0:=ID.out.rl.fa.own I
        rw[←hvA] at hown0
        have HOW:=Lib.hid hown0
        have HROW:=Lib.hid row
        have hgb:=(I4.out.rl.row.lt gb rfl).2
        have HY:=fun(w':World) (t':Touch vA.ownBlock.toList w4 w')=>Lib.hid (show w'.cell? ⟨gb,I*3+2,none⟩=some vA∧w'.cell? ⟨wr.heap.size,0,none⟩=some (.int .i64 v.id)∧True from by
         have row4:=I4.out.rl.row
         rw[HRJ.out] at row4
         have ow4:=I4.out.rl.fa.own I
         rw[←HVV.out] at ow4
         have r1:=ownsRow_touch row4 t' (fun x hx=>by cases hx;exact fun hm=>own_apart row4 ow4 (by decide) (g:=gb) rfl (Option.mem_toList.1 hm))
         have r2:=rowIs_touch HV4.out t' (own_not ow4 HV4.out (by decide))
         exact⟨(addr_add0 gb (I*3+2))▸r1.cells (g:=gb) rfl (j:=I*3+2) (u:=vA) (flatMap_get (n:=3) (f:=fun i=>[H i,VI i,VA i]) (fun _=>rfl) (List.range NR) I 2 I vA (by rw[List.getElem?_range hIN]) (by rw[HVV.out];rfl)),World.rowIs.cell r2 (i:=0) (by show 0<3;decide),trivial⟩)
        clear row hown0 hvA
        refine wp_region_noPanic ?_
        refine wp_region_par3 13 13 (by kernel_rfl) (by kernel_rfl) (by simp) (by omega) (by kernel_rfl) (by kernel_rfl) (fun w':World=>Touch vA.ownBlock.toList w4 w') ?_
        refine par3_move (v:= ?_) 0 (by simp only[zga,zgb,zgc];rfl) (by kernel_rfl) (by rfl) ?_ (fun _ _ _ h=>h) ?_
        rotate_left
        ·(intro w9;go_simp;try with_reducible rfl)
        simp only[Act.put,zpa,zpb,zpc]
        refine par3_move (v:= ?_) 1 (by simp only[zga,zgb,zgc];rfl) (by kernel_rfl) (by rfl) ?_ (fun _ _ _ h=>h) ?_
        rotate_left
        ·(intro w9;go_simp;try with_reducible rfl)
        simp only[Act.put,zpa,zpb,zpc]
        refine par3_move (v:= ?_) 2 (by simp only[zga,zgb,zgc];rfl) (by kernel_rfl) (by rfl) ?_ (fun _ _ _ h=>h) ?_
        rotate_left
        ·(intro w9;go_simp;try with_reducible rfl)
        simp only[Act.put,zpa,zpb,zpc]
        refine par3_move (v:= ?_) 3 (by simp only[zga,zgb,zgc];rfl) (by kernel_rfl) (by rfl) ?_ (fun _ _ _ h=>h) ?_
        rotate_left
        ·(intro w9;go_simp;try with_reducible rfl)
        simp only[Act.put,zpa,zpb,zpc]
        refine par3_move (v:= ?_) 4 (by simp only[zga,zgb,zgc];rfl) (by kernel_rfl) (by rfl) ?_ (fun _ _ _ h=>h) ?_
        rotate_left
        ·(intro w9;go_simp;try with_reducible rfl)
        simp only[Act.put,zpa,zpb,zpc]
        refine par3_move (v:= ?_) 5 (by simp only[zga,zgb,zgc];rfl) (by kernel_rfl) (by rfl) ?_ (fun _ _ _ h=>h) ?_
        rotate_left
        ·(intro w9;go_simp;try with_reducible rfl)
        simp only[Act.put,zpa,zpb,zpc]
        refine par3_read (v:= ?_) 6 (by simp only[zga,zgb,zgc];rfl) (by kernel_rfl) (by rfl) HS0.out ?_ (fun _ _ _ h=>h) ?_
        rotate_left
        ·(intro w9 hSw;first|(obtain⟨y0,y1,y2,y3⟩:=(HY w9 hSw).out;clear hSw;go_simp;try with_reducible rfl;done)|(obtain⟨y0,y1,y2⟩:=(HY w9 hSw).out;clear hSw;go_simp;try with_reducible rfl))
        simp only[Act.put,zpa,zpb,zpc]
        refine par3_move (v:= ?_) 7 (by simp only[zga,zgb,zgc];rfl) (by kernel_rfl) (by rfl) ?_ (fun _ _ _ h=>h) ?_
        rotate_left
        ·(intro w9;go_simp;try with_reducible rfl)
        simp only[Act.put,zpa,zpb,zpc]
        refine par3_read (v:= ?_) 8 (by simp only[zga,zgb,zgc];rfl) (by kernel_rfl) (by rfl) HS0.out ?_ (fun _ _ _ h=>h) ?_
        rotate_left
        ·(intro w9 hSw;first|(obtain⟨y0,y1,y2,y3⟩:=(HY w9 hSw).out;clear hSw;go_simp;try with_reducible rfl;done)|(obtain⟨y0,y1,y2⟩:=(HY w9 hSw).out;clear hSw;go_simp;try with_reducible rfl))
        simp only[Act.put,zpa,zpb,zpc]
        refine par3_nm (fun W8 hW8=> ?_)
        rw[←hW8] at HS0 ID HOW HROW
        clear hW8
        refine par3_one 9 (by simp only[zga,zgb,zgc];rfl) (by kernel_rfl) (by rfl) ?_
        refine owp_val (v:= ?_) (w1:= ?_) ?_ ?_
        rotate_left 2
        ·(go_simp;constructor<;>rfl)
        refine⟨fun s _=>s.alloc _, ?_⟩
        simp only[Act.put,zpa,zpb,zpc]
        refine par3_one 10 (by simp only[zga,zgb,zgc];rfl) (by kernel_rfl) (by rfl) ?_
        refine owp_append_near rfl (.tmp 171) (.tmp 174) 39 rfl bs 3 l0 (.int .i64 0) 1 8 Try.underlying39 hl hl0 hl1 hl2 rfl (by decide) vA (rmAt (rmV p g 0 t) I).alone.length _ rfl (HOW.out.alloc _) ⟨W8.heap.size,0,none⟩ 1 1 [.int .i64 v.id] rfl (by decide) rfl (cell_list_at _ [.int .i64 v.id] _ rfl) (by simp[Value.oneCell']) (by have:=rmV_alone_len (p:=p) g 0 t I;unfold maxLen;omega) (by have:=rmV_alone_len (p:=p) g 0 t I;omega) (by have h1:=HBS.out;have h2:=HB4.out.size;have h3:=HS0.out.size;simp;omega) ?_
        intro g10 cap10 w10 hown hgr hat
        have hb9:Below W8.heap.size W8 (W8.alloc (.cells #[.int .i64 v.id] 3)):=below_alloc (Below.refl _ _)
        have k9:=(Touch.of_below (F:=vA.ownBlock.toList) hb9).trans (Touch.of_grown hgr) (fun x hx=> .inl hx)
        have row9:=ownsRow_touch HROW.out k9 (fun x hx=>by cases hx;exact fun hm=>own_apart HROW.out HOW.out (by decide) (g:=gb) rfl (Option.mem_toList.1 hm))
        have c9:w10.cell? ⟨gb,I*3+2,none⟩=some vA:=(addr_add0 gb (I*3+2))▸row9.cells (g:=gb) rfl (j:=I*3+2) (u:=vA) (flatMap_get (n:=3) (f:=fun i=>[H i,VI i,VA i]) (fun _=>rfl) (List.range NR) I 2 I vA (by rw[List.getElem?_range hIN]) (by rw[HVV.out];rfl))
        have f9:=fun i=>own_fz row9 i
        have I9:=Lib.hid (RS.addA (rms:=rmV p g 0 t) (cap:=capb) (gb:=gb) (id:=v.id) (by rw[HRJ.out];exact ID.out) (by rw[HRJ.out];exact hIN) hb9 hown (HVV.out▸hgr) (HVV.out▸hat))
        have HS9:=Lib.hid (show wr.heap.size≤w10.heap.size from by have h1:=k9.size;have h2:=HB4.out.size;have h3:=HS0.out.size;omega)
        refine⟨fun s _=>s.trans (Touch.of_grown hgr) (fun b hb=> .inl hb), ?_⟩
        clear hown hgr hat hb9 k9 row9
        simp only[Act.put,zpa,zpb,zpc]
        refine par3_move (v:= ?_) 11 (by simp only[zga,zgb,zgc];rfl) (by kernel_rfl) (by rfl) ?_ (fun _ _ _ h=>h) ?_
        rotate_left
        ·(intro w9;go_simp;try with_reducible rfl)
        simp only[Act.put,zpa,zpb,zpc]
        refine par3_move (v:= ?_) 12 (by simp only[zga,zgb,zgc];rfl) (by kernel_rfl) (by rfl) ?_ (fun _ _ _ h=>h) ?_
        rotate_left
        ·(intro w9;go_simp;try with_reducible rfl)
        simp only[Act.put,zpa,zpb,zpc]
        refine par3_tail _ (by simp only[List.drop_succ_cons,List.drop_zero];rfl) (by kernel_rfl) ?_
        go_wp2_with fail
        refine NoPanic.normal ?_
        go_wp2_with fail
        go_roundw
        case rel=>
         have hr9:=I9.out
         have e1:addA (rmV p g 0 t) I v.id=rmV p g 0 (t+1):=by rw[rmV_yes HVK.out HDB.out,HII.out]
         rw[e1,HRJ.out] at hr9
         exact⟨t+1,_,HTL.out,by go_num,hr9,by have h1:=HS9.out;have h2:=HBS.out;simp;omega⟩
        case measure=>have:=HTL.out;simp[intOf];omega
       ·have hq:(d==(0:Int))=false:=by simp[hd0]
        have HDB:=Lib.hid (show degB p.es v.id=false from by
         rw[Bool.eq_false_iff,ne_eq, ←deg_zero, ←HDD.out]
         exact hd0)
        go_wp2_with fail
        go_roundw
        case rel=>
         exact⟨t+1,_,HTL.out,by go_num,by rw[rmV_no HVK.out HDB.out];exact I3.out,by have h1:=HBS.out;have h2:=HB3.out.size;omega⟩
        case measure=>have:=HTL.out;simp[intOf];omega
      ·obtain rfl:t=vn:=by omega
       have hR:=HI.out
       have hvl:=HVI.out.1
       rw[show rmV p g 0 t=realmsP p g 0 from by rw[hvl];exact rmV_done g 0] at hR
       have HP:=Lib.hid (show RlKp w.heap.size wr (some ⟨gb,0,none⟩) NR (realmsP p g 0) from fun F w9 tt hF=>by
        have k9:=hR.k
        have l1:=k9.lw.2.2.2
        have l2:=k9.up.2.2.2
        have l3:=k9.le
        have l4:=hR.rl.le
        refine RlM.in_ (hR.rl.touch tt hR.tch.size (fun b hb=> .inl ?_) (fun b hb hm=> ?_) (fun i b hb hm=> ?_) (fun i b hb hm=> ?_)) (by have h1:=HNR.out;have h2:=rmV_len (p:=p) g 0 p.vs.length;rw[rmV_done] at h2;omega) (Nat.le_trans hR.tch.size tt.size)
        ·have:=hF b hb
         show¬_≤b
         omega
        ·have:=hF b hm
         rcases hR.ob b hb with e|e<;>omega
        ·have:=hF b hm
         have:=((hR.rl.fi.own i).lt b hb).1
         omega
        ·have:=hF b hm
         have:=((hR.rl.fa.own i).lt b hb).1
         omega)
       have HQ:=Lib.hid (show OuIn wr wr.heap.size vra NO ((orsP p).map (ouOf g)) from hR.ou.in_ HNO.out.symm)
       have HBB:=Lib.hid hbw
       clear hR hvl hbw
       go_wp2_with fail
       go_ret2
       exact⟨g,_,_,_,_,_,_,rfl,HPF.out,HNZ.out,HP.out,HQ.out,HBB.out⟩
end Go.Proofs.Ythopjhifepijiaa
