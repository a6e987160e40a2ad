/- Lemmas on the way to the statement. -/
import Derived.Test.YthopjhifepijiaaJ12
import Derived.KernelRfl
set_option linter.unusedSimpArgs false
set_option linter.unusedVariables false
namespace Go.Proofs.Ythopjhifepijiaa
open Go.RowKit Go.Joins
set_option maxRecDepth 100000 in
set_option maxHeartbeats 2000000 in
theorem Realms_any {w:World} {B vn vc en ec:Nat} {va ea:Option Addr} {p:PL} (r:RightP p) (hv:VsIn w B va vn p.vs) (he:EsIn w B ea en p.es) (hB:B≤w.heap.size) (hec:en≤ec) (hfit:FitPL p):
  Calls Try.prog 10 #[.agg #[.slice va vn vc, .slice ea en ec]] w fun e w'=> ∃(g:Int→Int) (a:Option Addr) (n c:Nat),e= .returned (.slice a n c)∧PieceFn p g∧(∀id,IsV p id→g id≠0)∧RlIn w' w'.heap.size a n (realmsP p g 0)∧Below w.heap.size w w':=by
 have H:=fun(W:World) (hb:Below w.heap.size w W)=>Lib.hid (realms_any (w:=W) (vc:=vc) r (hv.below (hb.mono hB)) (he.below (hb.mono hB)) (Nat.le_trans hB hb.size) hec hfit)
 clear hv he hfit r
 go_enter Try.func10,Try.ntmps10
 go_wp2_with fail
 refine(H _ (below_alloc (Below.refl _ _))).out.mono ?_
 rintro e w2 ⟨g,a,n,c,ra,rn,rc,rfl,h1,h2,h3, -,hb⟩
 have HB:=Lib.hid (below_step hb (below_alloc (Below.refl _ _)))
 have H1:=Lib.hid h1
 have H2:=Lib.hid h2
 have H3:=Lib.hid h3
 clear hb h1 h2 h3
 go_wp2_with fail
 go_ret
 exact⟨g,_,_,_,rfl,H1.out,H2.out,H3.out,HB.out⟩
end Go.Proofs.Ythopjhifepijiaa
namespace Go.Proofs.Ythopjhifepijiaa
def vOkR (vs:List Vx) (i:Nat) (v:Vx):Bool:=decide (pid vs i<v.id)&&inB v.at_&&(vs.take i).all fun u=>decide (u.at_≠v.at_)
def eOkR (vs:List Vx) (es:List Ed) (i:Nat) (e:Ed):Bool:=decide (eid es i<e.id)&&decide (e.a≠e.b)&&(ptOf vs e.a).isSome&&(ptOf vs e.b).isSome&&(es.take i).all (fun f=>decide (ends f≠ends e))&&vs.all (fun v=> !onB v.at_ (ptZ vs e.a) (ptZ vs e.b))&&(es.take i).all (fun f=> !meetB (ptZ vs e.a) (ptZ vs e.b) (ptZ vs f.a) (ptZ vs f.b))
def rightR (p:PL):Bool:=decide (p.vs.length≤512)&&decide (p.es.length≤1024)&&(List.range p.vs.length).all (fun i=>((p.vs[i]?).map (vOkR p.vs i)).getD true)&&(List.range p.es.length).all (fun i=>((p.es[i]?).map (eOkR p.vs p.es i)).getD true)
theorem take_iff {α:Type} {P:α→Prop} {l:List α} {i:Nat}:(∀x∈l.take i,P x)↔ ∀j x,j<i→l[j]? =some x→P x:=by
 constructor
 ·intro h j x hj hx
  exact h x (List.mem_of_getElem? (i:=j) (by rw[List.getElem?_take,if_pos hj];exact hx))
 ·intro h x hx
  obtain⟨j,hj⟩:=List.mem_iff_getElem?.1 hx
  rw[List.getElem?_take] at hj
  split at hj
  ·exact h j x ‹_› hj
  ·cases hj
theorem all_take {α:Type} {f:α→Bool} {l:List α} {i:Nat}:(l.take i).all f=true↔ ∀j x,j<i→l[j]? =some x→f x=true:=by
 rw[List.all_eq_true]
 constructor
 ·intro h j x hj hx
  exact h x (List.mem_of_getElem? (i:=j) (by rw[List.getElem?_take,if_pos hj];exact hx))
 ·intro h x hx
  obtain⟨j,hj⟩:=List.mem_iff_getElem?.1 hx
  rw[List.getElem?_take] at hj
  split at hj
  ·exact h j x ‹_› hj
  ·cases hj
theorem all_range {α:Type} {f:Nat→α→Bool} {l:List α}:(List.range l.length).all (fun i=>((l[i]?).map (f i)).getD true)=true↔ ∀i x,l[i]? =some x→f i x=true:=by
 rw[List.all_eq_true]
 constructor
 ·intro h i x hx
  have:=h i (List.mem_range.2 (List.getElem?_eq_some_iff.1 hx).1)
  rw[hx] at this
  exact this
 ·intro h i hi
  have hx:=List.getElem?_eq_getElem (List.mem_range.1 hi)
  rw[hx]
  exact h i _ hx
theorem vOkR_iff {vs:List Vx} {i:Nat} {v:Vx}:vOkR vs i v=true↔VOk vs i v:=by
 unfold vOkR
 rw[Bool.and_eq_true,Bool.and_eq_true,decide_eq_true_iff,all_take]
 constructor
 ·rintro ⟨⟨h1,h2⟩,h3⟩
  exact⟨h1,h2,fun j u hj hu=>by simpa using h3 j u hj hu⟩
 ·rintro ⟨h1,h2,h3⟩
  exact⟨⟨h1,h2⟩,fun j u hj hu=>by simpa using h3 j u hj hu⟩
theorem eOkR_iff {vs:List Vx} {es:List Ed} {i:Nat} {e:Ed}:eOkR vs es i e=true↔ ∃A B,EOk vs es i e A B:=by
 unfold eOkR
 simp only[Bool.and_eq_true,decide_eq_true_iff,List.all_eq_true,take_iff]
 constructor
 ·rintro ⟨⟨⟨⟨⟨⟨h1,h2⟩,h3⟩,h4⟩,h5⟩,h6⟩,h7⟩
  obtain⟨A,hA⟩:=Option.isSome_iff_exists.1 h3
  obtain⟨B,hB⟩:=Option.isSome_iff_exists.1 h4
  have eA:ptZ vs e.a=A:=by unfold ptZ;rw[hA];rfl
  have eB:ptZ vs e.b=B:=by unfold ptZ;rw[hB];rfl
  rw[eA,eB] at h6 h7
  exact⟨A,B,h1,hA,hB,h2,h5,fun v hv=>by simpa using h6 v hv,fun j f hj hf=>by simpa using h7 j f hj hf⟩
 ·rintro ⟨A,B,h1,hA,hB,h2,h5,h6,h7⟩
  have eA:ptZ vs e.a=A:=by unfold ptZ;rw[hA];rfl
  have eB:ptZ vs e.b=B:=by unfold ptZ;rw[hB];rfl
  rw[eA,eB,hA,hB]
  exact⟨⟨⟨⟨⟨⟨h1,h2⟩,rfl⟩,rfl⟩,h5⟩,fun v hv=>by simpa using h6 v hv⟩,fun j f hj hf=>by simpa using h7 j f hj hf⟩
theorem rightR_iff {p:PL}:rightR p=true↔RightP p:=by
 unfold rightR
 rw[Bool.and_eq_true,Bool.and_eq_true,Bool.and_eq_true,decide_eq_true_iff,decide_eq_true_iff,all_range,all_range]
 constructor
 ·rintro ⟨⟨⟨h1,h2⟩,h3⟩,h4⟩
  exact⟨h1,h2,fun i v hv=>vOkR_iff.1 (h3 i v hv),fun i e he=>eOkR_iff.1 (h4 i e he)⟩
 ·rintro ⟨h1,h2,h3,h4⟩
  exact⟨⟨⟨h1,h2⟩,fun i v hv=>vOkR_iff.2 (h3 i v hv)⟩,fun i e he=>eOkR_iff.2 (h4 i e he)⟩
theorem rightR_eq (p:PL):rightR p=rightB p:=by
 rw[Bool.eq_iff_iff,rightR_iff,rightB_iff]
def exP:PL:=⟨[⟨1,⟨0,0⟩⟩,⟨2,⟨4,0⟩⟩,⟨3,⟨4,4⟩⟩,⟨4,⟨0,4⟩⟩,⟨5,⟨1,1⟩⟩],[⟨1,1,2⟩,⟨2,2,3⟩,⟨3,3,4⟩,⟨4,4,1⟩]⟩
theorem exP_right:RightP exP:=rightR_iff.1 (by decide+kernel)
def exO:List Hf:=[⟨1,false⟩,⟨2,false⟩,⟨3,false⟩,⟨4,false⟩]
def exI:List Hf:=[⟨1,true⟩,⟨4,true⟩,⟨3,true⟩,⟨2,true⟩]
theorem exP_rings:ringsP exP=[exO,exI]:=by
 rw[←exP_right.ringsR_eq]
 decide+kernel
theorem exP_outers:outersP exP=[exO]:=by
 unfold outersP
 rw[exP_rings]
 decide+kernel
theorem exP_inners:innersP exP=[exI]:=by
 unfold innersP
 rw[exP_rings]
 decide+kernel
theorem exP_val:realmsP exP (pieceR exP) (-1)=[⟨[],[exI],[]⟩,⟨exO,[],[5]⟩]:=by
 unfold realmsP base17 orsP
 rw[exP_outers,exP_inners]
 kernel_rfl
theorem exP_realms {g:Int→Int} (h:PieceFn exP g) (hz: ∀id,IsV exP id→g id≠0):realmsP exP g 0=[⟨[],[exI],[]⟩,⟨exO,[],[5]⟩]:=by
 rw[exP_right.realms_agree h exP_right.pieceR_fn hz (fun id _=>pieceR_no id)]
 exact exP_val
theorem exO_area:areaH exP exO=32:=by kernel_rfl
theorem exO_known: ∀h∈exO,h∈halvesE exP.es:=by decide+kernel
end Go.Proofs.Ythopjhifepijiaa
namespace Go.Proofs.Ythopjhifepijiaa
open Go.RowKit Go.Joins
theorem eq_wd_same (z0 z1 z2 z3:Int) (w:World):(binOp .eql 36 (.agg #[.int .u64 z0, .int .u64 z1, .int .u64 z2, .int .u64 z3]) (.agg #[.int .u64 z0, .int .u64 z1, .int .u64 z2, .int .u64 z3])).run Try.prog w= .ok (.bool true) w:=by
 rw[eq_wd]
 simp
theorem exP_fit:FitPL exP:=by
 refine⟨fun v hv=> ?_,fun e he=> ?_⟩
 ·simp[exP] at hv
  rcases hv with rfl|rfl|rfl|rfl|rfl<;>simp[fitI,fitP]
 ·simp[exP] at he
  rcases he with rfl|rfl|rfl|rfl<;>simp[fitI]
theorem exO_areaPr:areaPr exP exO=32:=by
 unfold areaPr
 rw[rightB_iff.2 exP_right,known_of exO_known]
 exact exO_area
set_option maxRecDepth 100000 in
set_option maxHeartbeats 8000000 in
theorem awake17_any (w:World):Calls Try.prog 8 #[] w fun e w'=>e= .returned (.bool true)∧Below w.heap.size w w':=by
 go_enter Try.func8,Try.ntmps8
 go_wp2_with fail
 first|refine wp_name (fun W hW=> ?_)|refine calls_name (fun W hW=> ?_)
 have HW:Hid (Below w.heap.size w W):=Lib.hid (by rw[←hW];repeat (first|exact Below.refl _ _|refine below_alloc ?_))
 have HWs:Hid (W.heap.size=w.heap.size+1+1+1):=Lib.hid (by rw[←hW];simp)
 have HBW:Hid (W.heap.size≤W.heap.size):=Lib.hid (by have:=HWs.out;omega)
 have HC:=fun(W1:World) (hb:Below (W.heap.size) W W1)=>Lib.hid (show W1.cell? ⟨w.heap.size,0,none⟩=some (.int .i64 1)∧W1.cell? ⟨w.heap.size,1,none⟩=some (.int .i64 0)∧W1.cell? ⟨w.heap.size,2,none⟩=some (.int .i64 0)∧W1.cell? ⟨w.heap.size,3,none⟩=some (.int .i64 2)∧W1.cell? ⟨w.heap.size,4,none⟩=some (.int .i64 4)∧W1.cell? ⟨w.heap.size,5,none⟩=some (.int .i64 0)∧W1.cell? ⟨w.heap.size,6,none⟩=some (.int .i64 3)∧W1.cell? ⟨w.heap.size,7,none⟩=some (.int .i64 4)∧W1.cell? ⟨w.heap.size,8,none⟩=some (.int .i64 4)∧W1.cell? ⟨w.heap.size,9,none⟩=some (.int .i64 4)∧W1.cell? ⟨w.heap.size,10,none⟩=some (.int .i64 0)∧W1.cell? ⟨w.heap.size,11,none⟩=some (.int .i64 4)∧W1.cell? ⟨w.heap.size,12,none⟩=some (.int .i64 5)∧W1.cell? ⟨w.heap.size,13,none⟩=some (.int .i64 1)∧W1.cell? ⟨w.heap.size,14,none⟩=some (.int .i64 1)∧W1.cell? ⟨w.heap.size+1,0,none⟩=some (.int .i64 1)∧W1.cell? ⟨w.heap.size+1,1,none⟩=some (.int .i64 1)∧W1.cell? ⟨w.heap.size+1,2,none⟩=some (.int .i64 2)∧W1.cell? ⟨w.heap.size+1,3,none⟩=some (.int .i64 2)∧W1.cell? ⟨w.heap.size+1,4,none⟩=some (.int .i64 2)∧W1.cell? ⟨w.heap.size+1,5,none⟩=some (.int .i64 3)∧W1.cell? ⟨w.heap.size+1,6,none⟩=some (.int .i64 3)∧W1.cell? ⟨w.heap.size+1,7,none⟩=some (.int .i64 3)∧W1.cell? ⟨w.heap.size+1,8,none⟩=some (.int .i64 4)∧W1.cell? ⟨w.heap.size+1,9,none⟩=some (.int .i64 4)∧W1.cell? ⟨w.heap.size+1,10,none⟩=some (.int .i64 4)∧W1.cell? ⟨w.heap.size+1,11,none⟩=some (.int .i64 1)∧W1.cell? ⟨w.heap.size+1+1,0,none⟩=some (.slice (some ⟨w.heap.size,0,none⟩) 5 5)∧W1.cell? ⟨w.heap.size+1+1,1,none⟩=some (.slice (some ⟨w.heap.size+1,0,none⟩) 4 4) from by exact⟨(hb.cell (p:=⟨w.heap.size,0,none⟩) (by show w.heap.size<W.heap.size;have:=HWs.out;omega)).trans (by rw[←hW];clear hW;go_simp),(hb.cell (p:=⟨w.heap.size,1,none⟩) (by show w.heap.size<W.heap.size;have:=HWs.out;omega)).trans (by rw[←hW];clear hW;go_simp),(hb.cell (p:=⟨w.heap.size,2,none⟩) (by show w.heap.size<W.heap.size;have:=HWs.out;omega)).trans (by rw[←hW];clear hW;go_simp),(hb.cell (p:=⟨w.heap.size,3,none⟩) (by show w.heap.size<W.heap.size;have:=HWs.out;omega)).trans (by rw[←hW];clear hW;go_simp),(hb.cell (p:=⟨w.heap.size,4,none⟩) (by show w.heap.size<W.heap.size;have:=HWs.out;omega)).trans (by rw[←hW];clear hW;go_simp),(hb.cell (p:=⟨w.heap.size,5,none⟩) (by show w.heap.size<W.heap.size;have:=HWs.out;omega)).trans (by rw[←hW];clear hW;go_simp),(hb.cell (p:=⟨w.heap.size,6,none⟩) (by show w.heap.size<W.heap.size;have:=HWs.out;omega)).trans (by rw[←hW];clear hW;go_simp),(hb.cell (p:=⟨w.heap.size,7,none⟩) (by show w.heap.size<W.heap.size;have:=HWs.out;omega)).trans (by rw[←hW];clear hW;go_simp),(hb.cell (p:=⟨w.heap.size,8,none⟩) (by show w.heap.size<W.heap.size;have:=HWs.out;omega)).trans (by rw[←hW];clear hW;go_simp),(hb.cell (p:=⟨w.heap.size,9,none⟩) (by show w.heap.size<W.heap.size;have:=HWs.out;omega)).trans (by rw[←hW];clear hW;go_simp),(hb.cell (p:=⟨w.heap.size,10,none⟩) (by show w.heap.size<W.heap.size;have:=HWs.out;omega)).trans (by rw[←hW];clear hW;go_simp),(hb.cell (p:=⟨w.heap.size,11,none⟩) (by show w.heap.size<W.heap.size;have:=HWs.out;omega)).trans (by rw[←hW];clear hW;go_simp),(hb.cell (p:=⟨w.heap.size,12,none⟩) (by show w.heap.size<W.heap.size;have:=HWs.out;omega)).trans (by rw[←hW];clear hW;go_simp),(hb.cell (p:=⟨w.heap.size,13,none⟩) (by show w.heap.size<W.heap.size;have:=HWs.out;omega)).trans (by rw[←hW];clear hW;go_simp),(hb.cell (p:=⟨w.heap.size,14,none⟩) (by show w.heap.size<W.heap.size;have:=HWs.out;omega)).trans (by rw[←hW];clear hW;go_simp),(hb.cell (p:=⟨w.heap.size+1,0,none⟩) (by show w.heap.size+1<W.heap.size;have:=HWs.out;omega)).trans (by rw[←hW];clear hW;go_simp),(hb.cell (p:=⟨w.heap.size+1,1,none⟩) (by show w.heap.size+1<W.heap.size;have:=HWs.out;omega)).trans (by rw[←hW];clear hW;go_simp),(hb.cell (p:=⟨w.heap.size+1,2,none⟩) (by show w.heap.size+1<W.heap.size;have:=HWs.out;omega)).trans (by rw[←hW];clear hW;go_simp),(hb.cell (p:=⟨w.heap.size+1,3,none⟩) (by show w.heap.size+1<W.heap.size;have:=HWs.out;omega)).trans (by rw[←hW];clear hW;go_simp),(hb.cell (p:=⟨w.heap.size+1,4,none⟩) (by show w.heap.size+1<W.heap.size;have:=HWs.out;omega)).trans (by rw[←hW];clear hW;go_simp),(hb.cell (p:=⟨w.heap.size+1,5,none⟩) (by show w.heap.size+1<W.heap.size;have:=HWs.out;omega)).trans (by rw[←hW];clear hW;go_simp),(hb.cell (p:=⟨w.heap.size+1,6,none⟩) (by show w.heap.size+1<W.heap.size;have:=HWs.out;omega)).trans (by rw[←hW];clear hW;go_simp),(hb.cell (p:=⟨w.heap.size+1,7,none⟩) (by show w.heap.size+1<W.heap.size;have:=HWs.out;omega)).trans (by rw[←hW];clear hW;go_simp),(hb.cell (p:=⟨w.heap.size+1,8,none⟩) (by show w.heap.size+1<W.heap.size;have:=HWs.out;omega)).trans (by rw[←hW];clear hW;go_simp),(hb.cell (p:=⟨w.heap.size+1,9,none⟩) (by show w.heap.size+1<W.heap.size;have:=HWs.out;omega)).trans (by rw[←hW];clear hW;go_simp),(hb.cell (p:=⟨w.heap.size+1,10,none⟩) (by show w.heap.size+1<W.heap.size;have:=HWs.out;omega)).trans (by rw[←hW];clear hW;go_simp),(hb.cell (p:=⟨w.heap.size+1,11,none⟩) (by show w.heap.size+1<W.heap.size;have:=HWs.out;omega)).trans (by rw[←hW];clear hW;go_simp),(hb.cell (p:=⟨w.heap.size+1+1,0,none⟩) (by show w.heap.size+1+1<W.heap.size;have:=HWs.out;omega)).trans (by rw[←hW];clear hW;go_simp),(hb.cell (p:=⟨w.heap.size+1+1,1,none⟩) (by show w.heap.size+1+1<W.heap.size;have:=HWs.out;omega)).trans (by rw[←hW];clear hW;go_simp)⟩)
 have HB:=Lib.hid (Below.refl (W.heap.size) W)
 clear hW
 obtain⟨q1_0,q1_1,q1_2,q1_3,q1_4,q1_5,q1_6,q1_7,q1_8,q1_9,q1_10,q1_11,q1_12,q1_13,q1_14,q1_15,q1_16,q1_17,q1_18,q1_19,q1_20,q1_21,q1_22,q1_23,q1_24,q1_25,q1_26,q1_27,q1_28⟩:=(HC _ HB.out).out
 have r1_0:=Nat.lt_of_lt_of_le (show w.heap.size<W.heap.size by have:=HWs.out;omega) HB.out.size
 have r1_1:=Nat.lt_of_lt_of_le (show w.heap.size+1<W.heap.size by have:=HWs.out;omega) HB.out.size
 have r1_2:=Nat.lt_of_lt_of_le (show w.heap.size+1+1<W.heap.size by have:=HWs.out;omega) HB.out.size
 have HVE:=fun(W1:World) (hb:Below W.heap.size W W1)=>Lib.hid (show VsIn W1 W.heap.size (some ⟨w.heap.size,0,none⟩) 5 exP.vs∧EsIn W1 W.heap.size (some ⟨w.heap.size+1,0,none⟩) 4 exP.es from by
  obtain⟨a0,a1,a2,a3,a4,a5,a6,a7,a8,a9,a10,a11,a12,a13,a14,b0,b1,b2,b3,b4,b5,b6,b7,b8,b9,b10,b11, -, -⟩:=(HC _ hb).out
  have:=HWs.out
  refine⟨⟨rfl, .inr ⟨_,0,rfl,by omega,fun i v hv=> ?_⟩⟩,⟨rfl, .inr ⟨_,0,rfl,by omega,fun i v hv=> ?_⟩⟩⟩
  ·rcases i with _|_|_|_|_|i
   ·cases hv;exact⟨a0,a1,a2⟩
   ·cases hv;exact⟨a3,a4,a5⟩
   ·cases hv;exact⟨a6,a7,a8⟩
   ·cases hv;exact⟨a9,a10,a11⟩
   ·cases hv;exact⟨a12,a13,a14⟩
   ·simp[exP] at hv
  ·rcases i with _|_|_|_|i
   ·cases hv;exact⟨b0,b1,b2⟩
   ·cases hv;exact⟨b3,b4,b5⟩
   ·cases hv;exact⟨b6,b7,b8⟩
   ·cases hv;exact⟨b9,b10,b11⟩
   ·simp[exP] at hv)
 refine(Realms_any exP_right (HVE _ (Below.refl _ _)).out.1 (HVE _ (Below.refl _ _)).out.2 (Nat.le_refl _) (Nat.le_refl _) exP_fit).mono ?_
 rintro e w1 ⟨g,a,n,c,rfl,hg1,hg2,hrl,hb1⟩
 rw[exP_realms hg1 hg2] at hrl
 clear hg1 hg2
 obtain rfl:n=2:=hrl.1
 obtain⟨rb,roff,r,oa,oc,ia,ic,la,lc,rfl,hrb,hr,hat⟩:=hrl.at_ (k:=1) (by decide)
 simp at hr
 subst hr
 obtain⟨lb,loff,x,rfl,hlb,hx,hl0⟩:=hat.alone.at_ (k:=0) (by decide)
 simp at hx
 subst hx
 have HOU:=Lib.hid hat.outer
 have c1:=hat.c0
 have c2:=hat.c2
 simp only[Nat.one_mul,List.length_cons,List.length_nil,Nat.reduceAdd,Nat.add_zero] at c1 c2 hl0
 have HB1:=Lib.hid hb1
 obtain⟨-, -, -, -, -, -, -, -, -, -, -, -, -, -, -, -, -, -, -, -, -, -, -, -, -, -, -,d0,d1⟩:=(HC _ hb1).out
 have HHH:=Lib.hid (show w1.cell? ⟨rb,roff+3,none⟩=some (.slice oa 4 oc)∧w1.cell? ⟨rb,roff+3+2,none⟩=some (.slice (some ⟨lb,loff,none⟩) 1 lc)∧w1.cell? ⟨lb,loff,none⟩=some (.int .i64 5)∧w1.cell? ⟨w.heap.size+1+1,0,none⟩=some (.slice (some ⟨w.heap.size,0,none⟩) 5 5)∧w1.cell? ⟨w.heap.size+1+1,1,none⟩=some (.slice (some ⟨w.heap.size+1,0,none⟩) 4 4) from⟨c1,c2,hl0,d0,d1⟩)
 have HLT:=Lib.hid (show rb<w1.heap.size∧lb<w1.heap.size∧w.heap.size+1+1<w1.heap.size from⟨hrb,hlb,by have:=HWs.out;have:=hb1.size;omega⟩)
 have HAR:=fun(W1:World) (hb:Below w1.heap.size w1 W1)=>Lib.hid (show Calls Try.prog 13 #[.agg #[.slice (some ⟨w.heap.size,0,none⟩) 5 5, .slice (some ⟨w.heap.size+1,0,none⟩) 4 4], .slice oa 4 oc] W1 fun e w'=>e= .returned (.agg #[.int .u64 (wrd 32 0), .int .u64 (wrd 32 1), .int .u64 (wrd 32 2), .int .u64 (wrd 32 3)])∧Below W1.heap.size W1 w' from by
  have h1:=HVE _ (HB1.out.trans (hb.mono HB1.out.size))
  have:=area_any (w:=W1) (B:=w1.heap.size) (vc:=5) (ec:=4) (c:=oc) (h1.out.1.mono HB1.out.size) (h1.out.2.mono HB1.out.size) (HOU.out.below hb) hb.size (by decide) (by decide) (by decide) exP_fit (by decide)
  rw[exO_areaPr] at this
  exact this)
 have HOF:=fun(W1:World)=>Lib.hid (of_any 32 W1 (by decide) (by decide))
 generalize wrd 32 0=z0 at HAR HOF
 generalize wrd 32 1=z1 at HAR HOF
 generalize wrd 32 2=z2 at HAR HOF
 generalize wrd 32 3=z3 at HAR HOF
 clear c1 c2 hl0 hat hrl hb1 d0 d1 hrb hlb
 clear q1_0 q1_1 q1_2 q1_3 q1_4 q1_5 q1_6 q1_7 q1_8 q1_9 q1_10 q1_11 q1_12 q1_13 q1_14 q1_15 q1_16 q1_17 q1_18 q1_19 q1_20 q1_21 q1_22 q1_23 q1_24 q1_25 q1_26 q1_27 q1_28 r1_0 r1_1 r1_2
 go_upto_region 3 with fail
 have HY:=fun(w':World) (t:Below w1.heap.size w1 w')=>Lib.hid (show w'.cell? ⟨rb,roff+3,none⟩=some (.slice oa 4 oc)∧w'.cell? ⟨rb,roff+3+2,none⟩=some (.slice (some ⟨lb,loff,none⟩) 1 lc)∧w'.cell? ⟨lb,loff,none⟩=some (.int .i64 5)∧w'.cell? ⟨w.heap.size+1+1,0,none⟩=some (.slice (some ⟨w.heap.size,0,none⟩) 5 5)∧w'.cell? ⟨w.heap.size+1+1,1,none⟩=some (.slice (some ⟨w.heap.size+1,0,none⟩) 4 4) from
  ⟨(t.cell (p:=⟨rb,_,none⟩) HLT.out.1).trans HHH.out.1,(t.cell (p:=⟨rb,_,none⟩) HLT.out.1).trans HHH.out.2.1,(t.cell (p:=⟨lb,_,none⟩) HLT.out.2.1).trans HHH.out.2.2.1,(t.cell (p:=⟨_,_,none⟩) HLT.out.2.2).trans HHH.out.2.2.2.1,(t.cell (p:=⟨_,_,none⟩) HLT.out.2.2).trans HHH.out.2.2.2.2⟩)
 have HS0:=Lib.hid (Below.refl w1.heap.size w1).drew
 refine wp_region_noPanic ?_
 refine wp_region_par3 30 30 (by kernel_rfl) (by kernel_rfl) (by simp) (by omega) (by kernel_rfl) (by kernel_rfl) (fun w':World=>Below w1.heap.size w1 w') ?_
 refine par3_move (v:= ?_) 0 (by simp only[zga,zgb,zgc];rfl) (by kernel_rfl) (by rfl) ?_ (fun _ _ _ h=>h) ?_
 rotate_left
 ·(intro w9;go_simp;try with_reducible rfl)
 simp only[Act.put,zpa,zpb,zpc]
 refine par3_move (v:= ?_) 1 (by simp only[zga,zgb,zgc];rfl) (by kernel_rfl) (by rfl) ?_ (fun _ _ _ h=>h) ?_
 rotate_left
 ·(intro w9;go_simp;try with_reducible rfl)
 simp only[Act.put,zpa,zpb,zpc]
 refine par3_move (v:= ?_) 2 (by simp only[zga,zgb,zgc];rfl) (by kernel_rfl) (by rfl) ?_ (fun _ _ _ h=>h) ?_
 rotate_left
 ·(intro w9;go_simp;try with_reducible rfl)
 simp only[Act.put,zpa,zpb,zpc]
 refine par3_move (v:= ?_) 3 (by simp only[zga,zgb,zgc];rfl) (by kernel_rfl) (by rfl) ?_ (fun _ _ _ h=>h) ?_
 rotate_left
 ·(intro w9;go_simp;try with_reducible rfl)
 simp only[Act.put,zpa,zpb,zpc]
 refine par3_move (v:= ?_) 4 (by simp only[zga,zgb,zgc];rfl) (by kernel_rfl) (by rfl) ?_ (fun _ _ _ h=>h) ?_
 rotate_left
 ·(intro w9;go_simp;try with_reducible rfl)
 simp only[Act.put,zpa,zpb,zpc]
 refine par3_move (v:= ?_) 5 (by simp only[zga,zgb,zgc];rfl) (by kernel_rfl) (by rfl) ?_ (fun _ _ _ h=>h) ?_
 rotate_left
 ·(intro w9;go_simp;try with_reducible rfl)
 simp only[Act.put,zpa,zpb,zpc]
 refine par3_move (v:= ?_) 6 (by simp only[zga,zgb,zgc];rfl) (by kernel_rfl) (by rfl) ?_ (fun _ _ _ h=>h) ?_
 rotate_left
 ·(intro w9;go_simp;try with_reducible rfl)
 simp only[Act.put,zpa,zpb,zpc]
 refine par3_read (v:= ?_) 7 (by simp only[zga,zgb,zgc];rfl) (by kernel_rfl) (by rfl) HS0.out ?_ (fun _ _ _ h=>h) ?_
 rotate_left
 ·(intro w9 hSw;obtain⟨y0,y1,y2,y3,y4⟩:=(HY w9 hSw).out;clear hSw;go_simp;try with_reducible rfl)
 simp only[Act.put,zpa,zpb,zpc]
 refine par3_move (v:= ?_) 8 (by simp only[zga,zgb,zgc];rfl) (by kernel_rfl) (by rfl) ?_ (fun _ _ _ h=>h) ?_
 rotate_left
 ·(intro w9;go_simp;try with_reducible rfl)
 simp only[Act.put,zpa,zpb,zpc]
 refine par3_move (v:= ?_) 9 (by simp only[zga,zgb,zgc];rfl) (by kernel_rfl) (by rfl) ?_ (fun _ _ _ h=>h) ?_
 rotate_left
 ·(intro w9;go_simp;try with_reducible rfl)
 simp only[Act.put,zpa,zpb,zpc]
 refine par3_move (v:= ?_) 10 (by simp only[zga,zgb,zgc];rfl) (by kernel_rfl) (by rfl) ?_ (fun _ _ _ h=>h) ?_
 rotate_left
 ·(intro w9;go_simp;try with_reducible rfl)
 simp only[Act.put,zpa,zpb,zpc]
 refine par3_move (v:= ?_) 11 (by simp only[zga,zgb,zgc];rfl) (by kernel_rfl) (by rfl) ?_ (fun _ _ _ h=>h) ?_
 rotate_left
 ·(intro w9;go_simp;try with_reducible rfl)
 simp only[Act.put,zpa,zpb,zpc]
 refine par3_move (v:= ?_) 12 (by simp only[zga,zgb,zgc];rfl) (by kernel_rfl) (by rfl) ?_ (fun _ _ _ h=>h) ?_
 rotate_left
 ·(intro w9;go_simp;try with_reducible rfl)
 simp only[Act.put,zpa,zpb,zpc]
 refine par3_move (v:= ?_) 13 (by simp only[zga,zgb,zgc];rfl) (by kernel_rfl) (by rfl) ?_ (fun _ _ _ h=>h) ?_
 rotate_left
 ·(intro w9;go_simp;try with_reducible rfl)
 simp only[Act.put,zpa,zpb,zpc]
 refine par3_move (v:= ?_) 14 (by simp only[zga,zgb,zgc];rfl) (by kernel_rfl) (by rfl) ?_ (fun _ _ _ h=>h) ?_
 rotate_left
 ·(intro w9;go_simp;try with_reducible rfl)
 simp only[Act.put,zpa,zpb,zpc]
 refine par3_read (v:= ?_) 15 (by simp only[zga,zgb,zgc];rfl) (by kernel_rfl) (by rfl) HS0.out ?_ (fun _ _ _ h=>h) ?_
 rotate_left
 ·(intro w9 hSw;obtain⟨y0,y1,y2,y3,y4⟩:=(HY w9 hSw).out;clear hSw;go_simp;try with_reducible rfl)
 simp only[Act.put,zpa,zpb,zpc]
 refine par3_move (v:= ?_) 16 (by simp only[zga,zgb,zgc];rfl) (by kernel_rfl) (by rfl) ?_ (fun _ _ _ h=>h) ?_
 rotate_left
 ·(intro w9;go_simp;try with_reducible rfl)
 simp only[Act.put,zpa,zpb,zpc]
 refine par3_read (v:= ?_) 17 (by simp only[zga,zgb,zgc];rfl) (by kernel_rfl) (by rfl) HS0.out ?_ (fun _ _ _ h=>h) ?_
 rotate_left
 ·(intro w9 hSw;obtain⟨y0,y1,y2,y3,y4⟩:=(HY w9 hSw).out;clear hSw;go_simp;try with_reducible rfl)
 simp only[Act.put,zpa,zpb,zpc]
 refine par3_move (v:= ?_) 18 (by simp only[zga,zgb,zgc];rfl) (by kernel_rfl) (by rfl) ?_ (fun _ _ _ h=>h) ?_
 rotate_left
 ·(intro w9;go_simp;try with_reducible rfl)
 simp only[Act.put,zpa,zpb,zpc]
 refine par3_move (v:= ?_) 19 (by simp only[zga,zgb,zgc];rfl) (by kernel_rfl) (by rfl) ?_ (fun _ _ _ h=>h) ?_
 rotate_left
 ·(intro w9;go_simp;try with_reducible rfl)
 simp only[Act.put,zpa,zpb,zpc]
 refine par3_move (v:= ?_) 20 (by simp only[zga,zgb,zgc];rfl) (by kernel_rfl) (by rfl) ?_ (fun _ _ _ h=>h) ?_
 rotate_left
 ·(intro w9;go_simp;try with_reducible rfl)
 simp only[Act.put,zpa,zpb,zpc]
 refine par3_read (v:= ?_) 21 (by simp only[zga,zgb,zgc];rfl) (by kernel_rfl) (by rfl) HS0.out ?_ (fun _ _ _ h=>h) ?_
 rotate_left
 ·(intro w9 hSw;obtain⟨y0,y1,y2,y3,y4⟩:=(HY w9 hSw).out;clear hSw;go_simp;try with_reducible rfl)
 simp only[Act.put,zpa,zpb,zpc]
 refine par3_move (v:= ?_) 22 (by simp only[zga,zgb,zgc];rfl) (by kernel_rfl) (by rfl) ?_ (fun _ _ _ h=>h) ?_
 rotate_left
 ·(intro w9;go_simp;try with_reducible rfl)
 simp only[Act.put,zpa,zpb,zpc]
 refine par3_move (v:= ?_) 23 (by simp only[zga,zgb,zgc];rfl) (by kernel_rfl) (by rfl) ?_ (fun _ _ _ h=>h) ?_
 rotate_left
 ·(intro w9;go_simp;try with_reducible rfl)
 simp only[Act.put,zpa,zpb,zpc]
 refine par3_move (v:= ?_) 24 (by simp only[zga,zgb,zgc];rfl) (by kernel_rfl) (by rfl) ?_ (fun _ _ _ h=>h) ?_
 rotate_left
 ·(intro w9;go_simp;try with_reducible rfl)
 simp only[Act.put,zpa,zpb,zpc]
 refine par3_read (v:= ?_) 25 (by simp only[zga,zgb,zgc];rfl) (by kernel_rfl) (by rfl) HS0.out ?_ (fun _ _ _ h=>h) ?_
 rotate_left
 ·(intro w9 hSw;obtain⟨y0,y1,y2,y3,y4⟩:=(HY w9 hSw).out;clear hSw;go_simp;try with_reducible rfl)
 simp only[Act.put,zpa,zpb,zpc]
 refine par3_nm (fun W8 hW8=> ?_)
 rw[←hW8] at HS0
 clear hW8
 refine par3_one 26 (by simp only[zga,zgb,zgc];rfl) (by kernel_rfl) (by rfl) ?_
 refine owp_call (by go_simp;constructor<;>rfl) ?_
 refine(HAR _ HS0.out).out.mono ?_
 rintro x w9 ⟨rfl,hb9⟩
 have HT9:=Lib.hid (below_next HS0.out HS0.out.size hb9)
 refine⟨_,rfl,fun s _=>HT9.out, ?_⟩
 clear hb9
 simp only[Act.put,zpa,zpb,zpc]
 refine par3_one 27 (by simp only[zga,zgb,zgc];rfl) (by kernel_rfl) (by rfl) ?_
 refine owp_call (by go_simp;constructor<;>rfl) ?_
 refine(HOF _).out.mono ?_
 rintro x w10 ⟨rfl,hb10⟩
 have HT10:=Lib.hid (below_next HT9.out HT9.out.size hb10)
 refine⟨_,rfl,fun s _=>HT10.out, ?_⟩
 clear hb10
 simp only[Act.put,zpa,zpb,zpc]
 have r1:=eq_wd_same z0 z1 z2 z3
 refine par3_move (v:= ?_) 28 (by simp only[zga,zgb,zgc];rfl) (by kernel_rfl) (by rfl) ?_ (fun _ _ _ h=>h) ?_
 rotate_left
 ·(intro w9;go_simp;try with_reducible rfl)
 simp only[Act.put,zpa,zpb,zpc]
 refine par3_move (v:= ?_) 29 (by simp only[zga,zgb,zgc];rfl) (by kernel_rfl) (by rfl) ?_ (fun _ _ _ h=>h) ?_
 rotate_left
 ·(intro w9;go_simp;try with_reducible rfl)
 simp only[Act.put,zpa,zpb,zpc]
 refine par3_tail _ (by simp only[List.drop_succ_cons,List.drop_zero];rfl) (by kernel_rfl) ?_
 go_wp2_with fail
 refine NoPanic.normal ?_
 go_wp2_with fail
 go_ret
 exact⟨rfl,HW.out.trans ((HB1.out.trans (HT10.out.mono HB1.out.size)).mono HW.out.size)⟩
end Go.Proofs.Ythopjhifepijiaa
namespace Go.Proofs.Ythopjhifepijiaa
open Go.RowKit Go.Joins
set_option maxRecDepth 100000 in
theorem few17_any (w:World) (va ea:Option Addr) (vn vc en ec:Nat):Calls Try.prog 9 #[.agg #[.slice va vn vc, .slice ea en ec]] w fun e w'=>e= .returned (.bool (decide (vn≤30∧en≤30)))∧Below w.heap.size w w':=by
 by_cases h1:vn≤30
 ·by_cases h2:en≤30
  ·go_enter Try.func9,Try.ntmps9
   go_wp2_with fail
   go_ret
   exact⟨by simp[h1,h2];try omega,below_alloc (Below.refl _ _)⟩
  ·go_enter Try.func9,Try.ntmps9
   go_wp2_with fail
   go_ret
   exact⟨by simp[h2];try omega,below_alloc (Below.refl _ _)⟩
 ·go_enter Try.func9,Try.ntmps9
  go_wp2_with fail
  go_ret
  exact⟨by simp[h1];try omega,below_alloc (Below.refl _ _)⟩
theorem Try.results11:Try.f11.results= #[.cell 2 30]:=by kernel_rfl
set_option maxRecDepth 100000 in
theorem plain17_any (w:World) (va ea:Option Addr) (vn vc en ec:Nat):Calls Try.prog 11 #[.agg #[.slice va vn vc, .slice ea en ec]] w fun e w'=>e= .returned (.agg #[.slice va vn vc, .slice ea en ec])∧Below w.heap.size w w':=by
 go_enter Try.func11,Try.ntmps11
 go_wp2_with fail
 refine bodyPost_ret (v:= .agg #[.slice va vn vc, .slice ea en ec]) (by simp[results,Try.results11,go_sem]) rfl ⟨rfl, ?_⟩
 exact below_alloc (below_alloc (Below.refl _ _))
end Go.Proofs.Ythopjhifepijiaa
namespace Go.Proofs.Ythopjhifepijiaa
open Go.RowKit
theorem ne_pt (a b:Pt) (w:World):(binOp .neq 51 (.agg #[.int .i64 a.x, .int .i64 a.y]) (.agg #[.int .i64 b.x, .int .i64 b.y])).run Try.prog w= .ok (.bool (decide (a≠b))) w:=by
 obtain⟨ax,ay⟩:=a
 obtain⟨bx,by_⟩:=b
 simp[go_sem]
 by_cases h1:ax=bx<;>by_cases h2:ay=by_<;>simp[h1,h2]
theorem ne_pt_t {a b:Pt} (h:decide (a=b)=true) (w:World):(binOp .neq 51 (.agg #[.int .i64 a.x, .int .i64 a.y]) (.agg #[.int .i64 b.x, .int .i64 b.y])).run Try.prog w= .ok (.bool false) w:=by
 rw[ne_pt];simp at h;simp[h]
theorem ne_pt_f {a b:Pt} (h:decide (a=b)=false) (w:World):(binOp .neq 51 (.agg #[.int .i64 a.x, .int .i64 a.y]) (.agg #[.int .i64 b.x, .int .i64 b.y])).run Try.prog w= .ok (.bool true) w:=by
 rw[ne_pt];simp at h;simp[h]
set_option maxRecDepth 100000 in
theorem r5in_any (p:Pt) (w:World):Calls Try.prog 23 #[.agg #[.int .i64 p.x, .int .i64 p.y]] w fun e w'=>e= .returned (.bool (inB p))∧Below w.heap.size w w':=by
 obtain⟨v,hv⟩: ∃v,v=inB p:=⟨_,rfl⟩
 rw[←hv]
 have hc:(v=true∧p.x≤268435456∧p.y≤268435456∧ -268435456≤p.x∧ -268435456≤p.y)∨(v=false∧ ¬p.x≤268435456)∨(v=false∧p.x≤268435456∧ ¬p.y≤268435456)∨(v=false∧p.x≤268435456∧p.y≤268435456∧ ¬ -268435456≤p.x)∨
   (v=false∧p.x≤268435456∧p.y≤268435456∧ -268435456≤p.x∧ ¬ -268435456≤p.y):=by
  cases v
  ·have:=hv.symm
   rw[Bool.eq_false_iff,ne_eq,inB_iff] at this
   simp only[true_and,Bool.false_eq_true,false_and,false_or]
   omega
  ·have:=inB_iff.1 hv.symm
   exact .inl ⟨rfl,this.2.1,this.2.2.2,this.1,this.2.2.1⟩
 clear hv
 rcases hc with ⟨rfl,h1,h2,h3,h4⟩|⟨rfl,h1⟩|⟨rfl,h1,h2⟩|⟨rfl,h1,h2,h3⟩|⟨rfl,h1,h2,h3,h4⟩
 all_goals
  go_enter Try.func23,Try.ntmps23
  go_wp2_with fail
  go_ret
  exact⟨rfl,below_alloc (Below.refl _ _)⟩
theorem prod_bd {x y:Int} (h1: -268435456≤x) (h2:x≤268435456) (h3: -268435456≤y) (h4:y≤268435456): -72057594037927936≤x*y∧x*y≤72057594037927936:=by
 have:=mul_bd h1 h2 h3 h4
 omega
set_option maxRecDepth 100000 in
set_option maxHeartbeats 1000000 in
theorem r5area_any (a b c:Pt) (w:World) (ha:inB a=true) (hb:inB b=true) (hc:inB c=true):
  Calls Try.prog 84 #[.agg #[.int .i64 a.x, .int .i64 a.y], .agg #[.int .i64 b.x, .int .i64 b.y], .agg #[.int .i64 c.x, .int .i64 c.y]] w fun e w'=>e= .returned (.int .i64 (crs a b c))∧Below w.heap.size w w':=by
 rw[←areaR_eq]
 have hd:=inB_iff.1 ha
 have he:=inB_iff.1 hb
 have hf:=inB_iff.1 hc
 have b1:=prod_bd hd.1 hd.2.1 he.2.2.1 he.2.2.2
 have b2:=prod_bd hd.2.2.1 hd.2.2.2 he.1 he.2.1
 have b3:=prod_bd he.1 he.2.1 hf.2.2.1 hf.2.2.2
 have b4:=prod_bd he.2.2.1 he.2.2.2 hf.1 hf.2.1
 have b5:=prod_bd hf.1 hf.2.1 hd.2.2.1 hd.2.2.2
 have b6:=prod_bd hf.2.2.1 hf.2.2.2 hd.1 hd.2.1
 unfold areaR
 clear ha hb hc hd he hf
 generalize h1:a.x*b.y=X1 at*
 generalize h2:a.y*b.x=X2 at*
 generalize h3:b.x*c.y=X3 at*
 generalize h4:b.y*c.x=X4 at*
 generalize h5:c.x*a.y=X5 at*
 generalize h6:c.y*a.x=X6 at*
 have w1:wrap64 (a.x*b.y)=X1:=by rw[h1];exact IntWalk.wrap64_in _ ⟨by omega,by omega⟩
 have w2:wrap64 (a.y*b.x)=X2:=by rw[h2];exact IntWalk.wrap64_in _ ⟨by omega,by omega⟩
 have w3:wrap64 (b.x*c.y)=X3:=by rw[h3];exact IntWalk.wrap64_in _ ⟨by omega,by omega⟩
 have w4:wrap64 (b.y*c.x)=X4:=by rw[h4];exact IntWalk.wrap64_in _ ⟨by omega,by omega⟩
 have w5:wrap64 (c.x*a.y)=X5:=by rw[h5];exact IntWalk.wrap64_in _ ⟨by omega,by omega⟩
 have w6:wrap64 (c.y*a.x)=X6:=by rw[h6];exact IntWalk.wrap64_in _ ⟨by omega,by omega⟩
 clear h1 h2 h3 h4 h5 h6
 obtain⟨b1a,b1b⟩:=b1
 obtain⟨b2a,b2b⟩:=b2
 obtain⟨b3a,b3b⟩:=b3
 obtain⟨b4a,b4b⟩:=b4
 obtain⟨b5a,b5b⟩:=b5
 obtain⟨b6a,b6b⟩:=b6
 go_enter Try.func84,Try.ntmps84
 go_wp2_with fail
 go_ret
 refine⟨by go_num,below_alloc (below_alloc (below_alloc (Below.refl _ _)))⟩
set_option maxRecDepth 100000 in
set_option maxHeartbeats 1000000 in
theorem r5turn_any (a b c:Pt) (w:World) (ha:inB a=true) (hb:inB b=true) (hc:inB c=true):
  Calls Try.prog 52 #[.agg #[.int .i64 a.x, .int .i64 a.y], .agg #[.int .i64 b.x, .int .i64 b.y], .agg #[.int .i64 c.x, .int .i64 c.y]] w fun e w'=>e= .returned (.int .i64 (trn a b c))∧Below w.heap.size w w':=by
 have H:=fun w=>Lib.hid (r5area_any a b c w ha hb hc)
 unfold trn
 generalize crs a b c=n at*
 clear ha hb hc
 rcases sign_cases n with ⟨h,e⟩|⟨h,e⟩|⟨h,e⟩
 all_goals
  rw[e]
  clear e
  try subst h
  go_enter Try.func52,Try.ntmps52
  go_wp2_with fail
  refine(H _).out.mono ?_
  rintro e w' ⟨rfl,hb⟩
  have HB:=Lib.hid (below_step hb (below_alloc (below_alloc (below_alloc (Below.refl w.heap.size w)))))
  clear hb
  go_wp2_with fail
  go_ret
  exact⟨rfl,HB.out⟩
end Go.Proofs.Ythopjhifepijiaa
namespace Go.Proofs.Ythopjhifepijiaa
open Go.RowKit
theorem rng_cases (p a b:Int):(decide (a≤p∧p≤b∨b≤p∧p≤a)=true∧a≤p∧p≤b)∨(decide (a≤p∧p≤b∨b≤p∧p≤a)=true∧a≤p∧ ¬p≤b∧b≤p∧p≤a)∨(decide (a≤p∧p≤b∨b≤p∧p≤a)=false∧a≤p∧ ¬p≤b∧b≤p∧ ¬p≤a)∨
  (decide (a≤p∧p≤b∨b≤p∧p≤a)=true∧ ¬a≤p∧b≤p∧p≤a)∨(decide (a≤p∧p≤b∨b≤p∧p≤a)=false∧ ¬a≤p∧ ¬b≤p):=by
 simp only[decide_eq_true_eq,decide_eq_false_iff_not]
 omega
set_option maxRecDepth 100000 in
set_option maxHeartbeats 4000000 in
theorem r5within_any (p a b:Pt) (w:World) (hp:inB p=true) (ha:inB a=true) (hb:inB b=true):
  Calls Try.prog 24 #[.agg #[.int .i64 p.x, .int .i64 p.y], .agg #[.int .i64 a.x, .int .i64 a.y], .agg #[.int .i64 b.x, .int .i64 b.y]] w fun e w'=>e= .returned (.bool (wthR p a b))∧Below w.heap.size w w':=by
 have H:=fun w=>Lib.hid (r5turn_any a b p w ha hb hp)
 unfold wthR
 generalize trn a b p=n at*
 clear ha hb hp
 by_cases hn:n=0
 ·subst hn
  rw[show decide ((0:Int)=0)=true from rfl,Bool.true_and]
  have hcx:=rng_cases p.x a.x b.x
  have hcy:=rng_cases p.y a.y b.y
  generalize decide (a.x≤p.x∧p.x≤b.x∨b.x≤p.x∧p.x≤a.x)=X at*
  generalize decide (a.y≤p.y∧p.y≤b.y∨b.y≤p.y∧p.y≤a.y)=Y at*
  have HCY:=Lib.hid hcy
  have HCX:=Lib.hid hcx
  clear hcx hcy
  go_enter Try.func24,Try.ntmps24
  go_wp2_with fail
  first|refine wp_name (fun W hW=> ?_)|refine calls_name (fun W hW=> ?_)
  have HW:Hid (Below w.heap.size w W):=Lib.hid (by rw[←hW];repeat (first|exact Below.refl _ _|refine below_alloc ?_))
  have HWs:Hid (W.heap.size=w.heap.size+1+1+1):=Lib.hid (by rw[←hW];simp)
  have HBW:Hid (W.heap.size≤W.heap.size):=Lib.hid (by have:=HWs.out;omega)
  have HC:=fun(W1:World) (hb:Below (W.heap.size) W W1)=>Lib.hid (show W1.cell? ⟨w.heap.size,0,none⟩=some (.int .i64 p.x)∧W1.cell? ⟨w.heap.size,1,none⟩=some (.int .i64 p.y)∧W1.cell? ⟨w.heap.size+1,0,none⟩=some (.int .i64 a.x)∧W1.cell? ⟨w.heap.size+1,1,none⟩=some (.int .i64 a.y)∧W1.cell? ⟨w.heap.size+1+1,0,none⟩=some (.int .i64 b.x)∧W1.cell? ⟨w.heap.size+1+1,1,none⟩=some (.int .i64 b.y) from by exact⟨(hb.cell (p:=⟨w.heap.size,0,none⟩) (by show w.heap.size<W.heap.size;have:=HWs.out;omega)).trans (by rw[←hW];clear hW;go_simp),(hb.cell (p:=⟨w.heap.size,1,none⟩) (by show w.heap.size<W.heap.size;have:=HWs.out;omega)).trans (by rw[←hW];clear hW;go_simp),(hb.cell (p:=⟨w.heap.size+1,0,none⟩) (by show w.heap.size+1<W.heap.size;have:=HWs.out;omega)).trans (by rw[←hW];clear hW;go_simp),(hb.cell (p:=⟨w.heap.size+1,1,none⟩) (by show w.heap.size+1<W.heap.size;have:=HWs.out;omega)).trans (by rw[←hW];clear hW;go_simp),(hb.cell (p:=⟨w.heap.size+1+1,0,none⟩) (by show w.heap.size+1+1<W.heap.size;have:=HWs.out;omega)).trans (by rw[←hW];clear hW;go_simp),(hb.cell (p:=⟨w.heap.size+1+1,1,none⟩) (by show w.heap.size+1+1<W.heap.size;have:=HWs.out;omega)).trans (by rw[←hW];clear hW;go_simp)⟩)
  have HB:=Lib.hid (Below.refl (W.heap.size) W)
  clear hW
  obtain⟨q1_0,q1_1,q1_2,q1_3,q1_4,q1_5⟩:=(HC _ HB.out).out
  have r1_0:=Nat.lt_of_lt_of_le (show w.heap.size<W.heap.size by have:=HWs.out;omega) HB.out.size
  have r1_1:=Nat.lt_of_lt_of_le (show w.heap.size+1<W.heap.size by have:=HWs.out;omega) HB.out.size
  have r1_2:=Nat.lt_of_lt_of_le (show w.heap.size+1+1<W.heap.size by have:=HWs.out;omega) HB.out.size
  refine((H _).out).mono ?_
  rintro e w2 ⟨rfl,hb2⟩
  have HB:=Lib.hid (below_next (below_next HB.out (Nat.le_trans HBW.out HB.out.size) (by repeat (first|exact Below.refl _ _|refine below_alloc ?_))) (by first|exact(Nat.le_trans HBW.out HB.out.size)|(simp;done)|(have h1:=HBW.out;have h2:=HB.out.size;simp;omega)) hb2)
  clear q1_0 q1_1 q1_2 q1_3 q1_4 q1_5 r1_0 r1_1 r1_2
  obtain⟨q2_0,q2_1,q2_2,q2_3,q2_4,q2_5⟩:=(HC _ HB.out).out
  clear hb2
  have r2_0:=Nat.lt_of_lt_of_le (show w.heap.size<W.heap.size by have:=HWs.out;omega) HB.out.size
  have r2_1:=Nat.lt_of_lt_of_le (show w.heap.size+1<W.heap.size by have:=HWs.out;omega) HB.out.size
  have r2_2:=Nat.lt_of_lt_of_le (show w.heap.size+1+1<W.heap.size by have:=HWs.out;omega) HB.out.size
  go_upto_region 3 with fail
  go_cut [7] (fun p7 wx=>p7= .bool X∧wx=w2)
  case first=>
   rcases HCX.out with ⟨rfl,h1,h2⟩|⟨rfl,h1,h2,h3,h4⟩|⟨rfl,h1,h2,h3,h4⟩|⟨rfl,h1,h2,h3⟩|⟨rfl,h1,h2⟩
   all_goals
    go_wp2_with fail
    go_meet
    exact⟨by first|rfl|(simp;omega),rfl⟩
  case rest=>
  obtain⟨rfl,rfl⟩:=hcut
  go_upto_region 4 with fail
  go_cut [8] (fun p8 wx=>p8= .bool Y∧wx=wc)
  case first=>
   rcases HCY.out with ⟨rfl,h1,h2⟩|⟨rfl,h1,h2,h3,h4⟩|⟨rfl,h1,h2,h3,h4⟩|⟨rfl,h1,h2,h3⟩|⟨rfl,h1,h2⟩
   all_goals
    go_wp2_with fail
    go_meet
    exact⟨by first|rfl|(simp;omega),rfl⟩
  case rest=>
  obtain⟨rfl,rfl⟩:=hcut
  cases X
  all_goals
   go_wp2_with fail
   go_ret
   exact⟨by simp,(HW.out.trans (HB.out.mono (by have:=HWs.out;omega)))⟩
 ·have hz:(n==0)=false:=by simpa using hn
  rw[show decide (n=0)=false by simpa using hn]
  go_enter Try.func24,Try.ntmps24
  go_wp2_with fail
  first|refine wp_name (fun W hW=> ?_)|refine calls_name (fun W hW=> ?_)
  have HW:Hid (Below w.heap.size w W):=Lib.hid (by rw[←hW];repeat (first|exact Below.refl _ _|refine below_alloc ?_))
  have HWs:Hid (W.heap.size=w.heap.size+1+1+1):=Lib.hid (by rw[←hW];simp)
  have HBW:Hid (W.heap.size≤W.heap.size):=Lib.hid (by have:=HWs.out;omega)
  have HC:=fun(W1:World) (hb:Below (W.heap.size) W W1)=>Lib.hid (show W1.cell? ⟨w.heap.size,0,none⟩=some (.int .i64 p.x)∧W1.cell? ⟨w.heap.size,1,none⟩=some (.int .i64 p.y)∧W1.cell? ⟨w.heap.size+1,0,none⟩=some (.int .i64 a.x)∧W1.cell? ⟨w.heap.size+1,1,none⟩=some (.int .i64 a.y)∧W1.cell? ⟨w.heap.size+1+1,0,none⟩=some (.int .i64 b.x)∧W1.cell? ⟨w.heap.size+1+1,1,none⟩=some (.int .i64 b.y) from by exact⟨(hb.cell (p:=⟨w.heap.size,0,none⟩) (by show w.heap.size<W.heap.size;have:=HWs.out;omega)).trans (by rw[←hW];clear hW;go_simp),(hb.cell (p:=⟨w.heap.size,1,none⟩) (by show w.heap.size<W.heap.size;have:=HWs.out;omega)).trans (by rw[←hW];clear hW;go_simp),(hb.cell (p:=⟨w.heap.size+1,0,none⟩) (by show w.heap.size+1<W.heap.size;have:=HWs.out;omega)).trans (by rw[←hW];clear hW;go_simp),(hb.cell (p:=⟨w.heap.size+1,1,none⟩) (by show w.heap.size+1<W.heap.size;have:=HWs.out;omega)).trans (by rw[←hW];clear hW;go_simp),(hb.cell (p:=⟨w.heap.size+1+1,0,none⟩) (by show w.heap.size+1+1<W.heap.size;have:=HWs.out;omega)).trans (by rw[←hW];clear hW;go_simp),(hb.cell (p:=⟨w.heap.size+1+1,1,none⟩) (by show w.heap.size+1+1<W.heap.size;have:=HWs.out;omega)).trans (by rw[←hW];clear hW;go_simp)⟩)
  have HB:=Lib.hid (Below.refl (W.heap.size) W)
  clear hW
  obtain⟨q4_0,q4_1,q4_2,q4_3,q4_4,q4_5⟩:=(HC _ HB.out).out
  have r4_0:=Nat.lt_of_lt_of_le (show w.heap.size<W.heap.size by have:=HWs.out;omega) HB.out.size
  have r4_1:=Nat.lt_of_lt_of_le (show w.heap.size+1<W.heap.size by have:=HWs.out;omega) HB.out.size
  have r4_2:=Nat.lt_of_lt_of_le (show w.heap.size+1+1<W.heap.size by have:=HWs.out;omega) HB.out.size
  refine((H _).out).mono ?_
  rintro e w5 ⟨rfl,hb5⟩
  have HB:=Lib.hid (below_next (below_next HB.out (Nat.le_trans HBW.out HB.out.size) (by repeat (first|exact Below.refl _ _|refine below_alloc ?_))) (by first|exact(Nat.le_trans HBW.out HB.out.size)|(simp;done)|(have h1:=HBW.out;have h2:=HB.out.size;simp;omega)) hb5)
  clear q4_0 q4_1 q4_2 q4_3 q4_4 q4_5 r4_0 r4_1 r4_2
  obtain⟨q5_0,q5_1,q5_2,q5_3,q5_4,q5_5⟩:=(HC _ HB.out).out
  clear hb5
  have r5_0:=Nat.lt_of_lt_of_le (show w.heap.size<W.heap.size by have:=HWs.out;omega) HB.out.size
  have r5_1:=Nat.lt_of_lt_of_le (show w.heap.size+1<W.heap.size by have:=HWs.out;omega) HB.out.size
  have r5_2:=Nat.lt_of_lt_of_le (show w.heap.size+1+1<W.heap.size by have:=HWs.out;omega) HB.out.size
  go_wp2_with fail
  go_ret
  exact⟨by simp,(HW.out.trans (HB.out.mono (by have:=HWs.out;omega)))⟩
set_option maxRecDepth 100000 in
set_option maxHeartbeats 4000000 in
theorem r5on_any (p a b:Pt) (w:World) (hp:inB p=true) (ha:inB a=true) (hb:inB b=true):
  Calls Try.prog 57 #[.agg #[.int .i64 p.x, .int .i64 p.y], .agg #[.int .i64 a.x, .int .i64 a.y], .agg #[.int .i64 b.x, .int .i64 b.y]] w fun e w'=>e= .returned (.bool (onB p a b))∧Below w.heap.size w w':=by
 rw[←onR_eq hp ha hb]
 have H:=fun w=>Lib.hid (r5within_any p a b w hp ha hb)
 unfold onR
 generalize wthR p a b=X at*
 clear ha hb hp
 cases X
 ·go_enter Try.func57,Try.ntmps57
  go_wp2_with fail
  first|refine wp_name (fun W hW=> ?_)|refine calls_name (fun W hW=> ?_)
  have HW:Hid (Below w.heap.size w W):=Lib.hid (by rw[←hW];repeat (first|exact Below.refl _ _|refine below_alloc ?_))
  have HWs:Hid (W.heap.size=w.heap.size+1+1+1):=Lib.hid (by rw[←hW];simp)
  have HBW:Hid (W.heap.size≤W.heap.size):=Lib.hid (by have:=HWs.out;omega)
  have HC:=fun(W1:World) (hb:Below (W.heap.size) W W1)=>Lib.hid (show W1.cell? ⟨w.heap.size,0,none⟩=some (.int .i64 p.x)∧W1.cell? ⟨w.heap.size,1,none⟩=some (.int .i64 p.y)∧W1.cell? ⟨w.heap.size+1,0,none⟩=some (.int .i64 a.x)∧W1.cell? ⟨w.heap.size+1,1,none⟩=some (.int .i64 a.y)∧W1.cell? ⟨w.heap.size+1+1,0,none⟩=some (.int .i64 b.x)∧W1.cell? ⟨w.heap.size+1+1,1,none⟩=some (.int .i64 b.y) from by exact⟨(hb.cell (p:=⟨w.heap.size,0,none⟩) (by show w.heap.size<W.heap.size;have:=HWs.out;omega)).trans (by rw[←hW];clear hW;go_simp),(hb.cell (p:=⟨w.heap.size,1,none⟩) (by show w.heap.size<W.heap.size;have:=HWs.out;omega)).trans (by rw[←hW];clear hW;go_simp),(hb.cell (p:=⟨w.heap.size+1,0,none⟩) (by show w.heap.size+1<W.heap.size;have:=HWs.out;omega)).trans (by rw[←hW];clear hW;go_simp),(hb.cell (p:=⟨w.heap.size+1,1,none⟩) (by show w.heap.size+1<W.heap.size;have:=HWs.out;omega)).trans (by rw[←hW];clear hW;go_simp),(hb.cell (p:=⟨w.heap.size+1+1,0,none⟩) (by show w.heap.size+1+1<W.heap.size;have:=HWs.out;omega)).trans (by rw[←hW];clear hW;go_simp),(hb.cell (p:=⟨w.heap.size+1+1,1,none⟩) (by show w.heap.size+1+1<W.heap.size;have:=HWs.out;omega)).trans (by rw[←hW];clear hW;go_simp)⟩)
  have HB:=Lib.hid (Below.refl (W.heap.size) W)
  clear hW
  obtain⟨q7_0,q7_1,q7_2,q7_3,q7_4,q7_5⟩:=(HC _ HB.out).out
  have r7_0:=Nat.lt_of_lt_of_le (show w.heap.size<W.heap.size by have:=HWs.out;omega) HB.out.size
  have r7_1:=Nat.lt_of_lt_of_le (show w.heap.size+1<W.heap.size by have:=HWs.out;omega) HB.out.size
  have r7_2:=Nat.lt_of_lt_of_le (show w.heap.size+1+1<W.heap.size by have:=HWs.out;omega) HB.out.size
  refine((H _).out).mono ?_
  rintro e w8 ⟨rfl,hb8⟩
  have HB:=Lib.hid (below_next (below_next HB.out (Nat.le_trans HBW.out HB.out.size) (by repeat (first|exact Below.refl _ _|refine below_alloc ?_))) (by first|exact(Nat.le_trans HBW.out HB.out.size)|(simp;done)|(have h1:=HBW.out;have h2:=HB.out.size;simp;omega)) hb8)
  clear q7_0 q7_1 q7_2 q7_3 q7_4 q7_5 r7_0 r7_1 r7_2
  obtain⟨q8_0,q8_1,q8_2,q8_3,q8_4,q8_5⟩:=(HC _ HB.out).out
  clear hb8
  have r8_0:=Nat.lt_of_lt_of_le (show w.heap.size<W.heap.size by have:=HWs.out;omega) HB.out.size
  have r8_1:=Nat.lt_of_lt_of_le (show w.heap.size+1<W.heap.size by have:=HWs.out;omega) HB.out.size
  have r8_2:=Nat.lt_of_lt_of_le (show w.heap.size+1+1<W.heap.size by have:=HWs.out;omega) HB.out.size
  go_wp2_with fail
  go_ret
  exact⟨by simp,(HW.out.trans (HB.out.mono (by have:=HWs.out;omega)))⟩
 ·cases h1:decide (p=a)
  ·have r1:=ne_pt_f h1
   cases h2:decide (p=b)
   ·have r2:=ne_pt_f h2
    go_enter Try.func57,Try.ntmps57
    go_wp2_with fail
    first|refine wp_name (fun W hW=> ?_)|refine calls_name (fun W hW=> ?_)
    have HW:Hid (Below w.heap.size w W):=Lib.hid (by rw[←hW];repeat (first|exact Below.refl _ _|refine below_alloc ?_))
    have HWs:Hid (W.heap.size=w.heap.size+1+1+1):=Lib.hid (by rw[←hW];simp)
    have HBW:Hid (W.heap.size≤W.heap.size):=Lib.hid (by have:=HWs.out;omega)
    have HC:=fun(W1:World) (hb:Below (W.heap.size) W W1)=>Lib.hid (show W1.cell? ⟨w.heap.size,0,none⟩=some (.int .i64 p.x)∧W1.cell? ⟨w.heap.size,1,none⟩=some (.int .i64 p.y)∧W1.cell? ⟨w.heap.size+1,0,none⟩=some (.int .i64 a.x)∧W1.cell? ⟨w.heap.size+1,1,none⟩=some (.int .i64 a.y)∧W1.cell? ⟨w.heap.size+1+1,0,none⟩=some (.int .i64 b.x)∧W1.cell? ⟨w.heap.size+1+1,1,none⟩=some (.int .i64 b.y) from by exact⟨(hb.cell (p:=⟨w.heap.size,0,none⟩) (by show w.heap.size<W.heap.size;have:=HWs.out;omega)).trans (by rw[←hW];clear hW;go_simp),(hb.cell (p:=⟨w.heap.size,1,none⟩) (by show w.heap.size<W.heap.size;have:=HWs.out;omega)).trans (by rw[←hW];clear hW;go_simp),(hb.cell (p:=⟨w.heap.size+1,0,none⟩) (by show w.heap.size+1<W.heap.size;have:=HWs.out;omega)).trans (by rw[←hW];clear hW;go_simp),(hb.cell (p:=⟨w.heap.size+1,1,none⟩) (by show w.heap.size+1<W.heap.size;have:=HWs.out;omega)).trans (by rw[←hW];clear hW;go_simp),(hb.cell (p:=⟨w.heap.size+1+1,0,none⟩) (by show w.heap.size+1+1<W.heap.size;have:=HWs.out;omega)).trans (by rw[←hW];clear hW;go_simp),(hb.cell (p:=⟨w.heap.size+1+1,1,none⟩) (by show w.heap.size+1+1<W.heap.size;have:=HWs.out;omega)).trans (by rw[←hW];clear hW;go_simp)⟩)
    have HB:=Lib.hid (Below.refl (W.heap.size) W)
    clear hW
    obtain⟨q10_0,q10_1,q10_2,q10_3,q10_4,q10_5⟩:=(HC _ HB.out).out
    have r10_0:=Nat.lt_of_lt_of_le (show w.heap.size<W.heap.size by have:=HWs.out;omega) HB.out.size
    have r10_1:=Nat.lt_of_lt_of_le (show w.heap.size+1<W.heap.size by have:=HWs.out;omega) HB.out.size
    have r10_2:=Nat.lt_of_lt_of_le (show w.heap.size+1+1<W.heap.size by have:=HWs.out;omega) HB.out.size
    refine((H _).out).mono ?_
    rintro e w11 ⟨rfl,hb11⟩
    have HB:=Lib.hid (below_next (below_next HB.out (Nat.le_trans HBW.out HB.out.size) (by repeat (first|exact Below.refl _ _|refine below_alloc ?_))) (by first|exact(Nat.le_trans HBW.out HB.out.size)|(simp;done)|(have h1:=HBW.out;have h2:=HB.out.size;simp;omega)) hb11)
    clear q10_0 q10_1 q10_2 q10_3 q10_4 q10_5 r10_0 r10_1 r10_2
    obtain⟨q11_0,q11_1,q11_2,q11_3,q11_4,q11_5⟩:=(HC _ HB.out).out
    clear hb11
    have r11_0:=Nat.lt_of_lt_of_le (show w.heap.size<W.heap.size by have:=HWs.out;omega) HB.out.size
    have r11_1:=Nat.lt_of_lt_of_le (show w.heap.size+1<W.heap.size by have:=HWs.out;omega) HB.out.size
    have r11_2:=Nat.lt_of_lt_of_le (show w.heap.size+1+1<W.heap.size by have:=HWs.out;omega) HB.out.size
    go_wp2_with fail
    go_ret
    exact⟨by simp at h1 h2;simp[h1,h2],(HW.out.trans (HB.out.mono (by have:=HWs.out;omega)))⟩
   ·have r2:=ne_pt_t h2
    go_enter Try.func57,Try.ntmps57
    go_wp2_with fail
    first|refine wp_name (fun W hW=> ?_)|refine calls_name (fun W hW=> ?_)
    have HW:Hid (Below w.heap.size w W):=Lib.hid (by rw[←hW];repeat (first|exact Below.refl _ _|refine below_alloc ?_))
    have HWs:Hid (W.heap.size=w.heap.size+1+1+1):=Lib.hid (by rw[←hW];simp)
    have HBW:Hid (W.heap.size≤W.heap.size):=Lib.hid (by have:=HWs.out;omega)
    have HC:=fun(W1:World) (hb:Below (W.heap.size) W W1)=>Lib.hid (show W1.cell? ⟨w.heap.size,0,none⟩=some (.int .i64 p.x)∧W1.cell? ⟨w.heap.size,1,none⟩=some (.int .i64 p.y)∧W1.cell? ⟨w.heap.size+1,0,none⟩=some (.int .i64 a.x)∧W1.cell? ⟨w.heap.size+1,1,none⟩=some (.int .i64 a.y)∧W1.cell? ⟨w.heap.size+1+1,0,none⟩=some (.int .i64 b.x)∧W1.cell? ⟨w.heap.size+1+1,1,none⟩=some (.int .i64 b.y) from by exact⟨(hb.cell (p:=⟨w.heap.size,0,none⟩) (by show w.heap.size<W.heap.size;have:=HWs.out;omega)).trans (by rw[←hW];clear hW;go_simp),(hb.cell (p:=⟨w.heap.size,1,none⟩) (by show w.heap.size<W.heap.size;have:=HWs.out;omega)).trans (by rw[←hW];clear hW;go_simp),(hb.cell (p:=⟨w.heap.size+1,0,none⟩) (by show w.heap.size+1<W.heap.size;have:=HWs.out;omega)).trans (by rw[←hW];clear hW;go_simp),(hb.cell (p:=⟨w.heap.size+1,1,none⟩) (by show w.heap.size+1<W.heap.size;have:=HWs.out;omega)).trans (by rw[←hW];clear hW;go_simp),(hb.cell (p:=⟨w.heap.size+1+1,0,none⟩) (by show w.heap.size+1+1<W.heap.size;have:=HWs.out;omega)).trans (by rw[←hW];clear hW;go_simp),(hb.cell (p:=⟨w.heap.size+1+1,1,none⟩) (by show w.heap.size+1+1<W.heap.size;have:=HWs.out;omega)).trans (by rw[←hW];clear hW;go_simp)⟩)
    have HB:=Lib.hid (Below.refl (W.heap.size) W)
    clear hW
    obtain⟨q13_0,q13_1,q13_2,q13_3,q13_4,q13_5⟩:=(HC _ HB.out).out
    have r13_0:=Nat.lt_of_lt_of_le (show w.heap.size<W.heap.size by have:=HWs.out;omega) HB.out.size
    have r13_1:=Nat.lt_of_lt_of_le (show w.heap.size+1<W.heap.size by have:=HWs.out;omega) HB.out.size
    have r13_2:=Nat.lt_of_lt_of_le (show w.heap.size+1+1<W.heap.size by have:=HWs.out;omega) HB.out.size
    refine((H _).out).mono ?_
    rintro e w14 ⟨rfl,hb14⟩
    have HB:=Lib.hid (below_next (below_next HB.out (Nat.le_trans HBW.out HB.out.size) (by repeat (first|exact Below.refl _ _|refine below_alloc ?_))) (by first|exact(Nat.le_trans HBW.out HB.out.size)|(simp;done)|(have h1:=HBW.out;have h2:=HB.out.size;simp;omega)) hb14)
    clear q13_0 q13_1 q13_2 q13_3 q13_4 q13_5 r13_0 r13_1 r13_2
    obtain⟨q14_0,q14_1,q14_2,q14_3,q14_4,q14_5⟩:=(HC _ HB.out).out
    clear hb14
    have r14_0:=Nat.lt_of_lt_of_le (show w.heap.size<W.heap.size by have:=HWs.out;omega) HB.out.size
    have r14_1:=Nat.lt_of_lt_of_le (show w.heap.size+1<W.heap.size by have:=HWs.out;omega) HB.out.size
    have r14_2:=Nat.lt_of_lt_of_le (show w.heap.size+1+1<W.heap.size by have:=HWs.out;omega) HB.out.size
    go_wp2_with fail
    go_ret
    exact⟨by simp at h2;simp[h2],(HW.out.trans (HB.out.mono (by have:=HWs.out;omega)))⟩
  ·have r1:=ne_pt_t h1
   go_enter Try.func57,Try.ntmps57
   go_wp2_with fail
   first|refine wp_name (fun W hW=> ?_)|refine calls_name (fun W hW=> ?_)
   have HW:Hid (Below w.heap.size w W):=Lib.hid (by rw[←hW];repeat (first|exact Below.refl _ _|refine below_alloc ?_))
   have HWs:Hid (W.heap.size=w.heap.size+1+1+1):=Lib.hid (by rw[←hW];simp)
   have HBW:Hid (W.heap.size≤W.heap.size):=Lib.hid (by have:=HWs.out;omega)
   have HC:=fun(W1:World) (hb:Below (W.heap.size) W W1)=>Lib.hid (show W1.cell? ⟨w.heap.size,0,none⟩=some (.int .i64 p.x)∧W1.cell? ⟨w.heap.size,1,none⟩=some (.int .i64 p.y)∧W1.cell? ⟨w.heap.size+1,0,none⟩=some (.int .i64 a.x)∧W1.cell? ⟨w.heap.size+1,1,none⟩=some (.int .i64 a.y)∧W1.cell? ⟨w.heap.size+1+1,0,none⟩=some (.int .i64 b.x)∧W1.cell? ⟨w.heap.size+1+1,1,none⟩=some (.int .i64 b.y) from by exact⟨(hb.cell (p:=⟨w.heap.size,0,none⟩) (by show w.heap.size<W.heap.size;have:=HWs.out;omega)).trans (by rw[←hW];clear hW;go_simp),(hb.cell (p:=⟨w.heap.size,1,none⟩) (by show w.heap.size<W.heap.size;have:=HWs.out;omega)).trans (by rw[←hW];clear hW;go_simp),(hb.cell (p:=⟨w.heap.size+1,0,none⟩) (by show w.heap.size+1<W.heap.size;have:=HWs.out;omega)).trans (by rw[←hW];clear hW;go_simp),(hb.cell (p:=⟨w.heap.size+1,1,none⟩) (by show w.heap.size+1<W.heap.size;have:=HWs.out;omega)).trans (by rw[←hW];clear hW;go_simp),(hb.cell (p:=⟨w.heap.size+1+1,0,none⟩) (by show w.heap.size+1+1<W.heap.size;have:=HWs.out;omega)).trans (by rw[←hW];clear hW;go_simp),(hb.cell (p:=⟨w.heap.size+1+1,1,none⟩) (by show w.heap.size+1+1<W.heap.size;have:=HWs.out;omega)).trans (by rw[←hW];clear hW;go_simp)⟩)
   have HB:=Lib.hid (Below.refl (W.heap.size) W)
   clear hW
   obtain⟨q16_0,q16_1,q16_2,q16_3,q16_4,q16_5⟩:=(HC _ HB.out).out
   have r16_0:=Nat.lt_of_lt_of_le (show w.heap.size<W.heap.size by have:=HWs.out;omega) HB.out.size
   have r16_1:=Nat.lt_of_lt_of_le (show w.heap.size+1<W.heap.size by have:=HWs.out;omega) HB.out.size
   have r16_2:=Nat.lt_of_lt_of_le (show w.heap.size+1+1<W.heap.size by have:=HWs.out;omega) HB.out.size
   refine((H _).out).mono ?_
   rintro e w17 ⟨rfl,hb17⟩
   have HB:=Lib.hid (below_next (below_next HB.out (Nat.le_trans HBW.out HB.out.size) (by repeat (first|exact Below.refl _ _|refine below_alloc ?_))) (by first|exact(Nat.le_trans HBW.out HB.out.size)|(simp;done)|(have h1:=HBW.out;have h2:=HB.out.size;simp;omega)) hb17)
   clear q16_0 q16_1 q16_2 q16_3 q16_4 q16_5 r16_0 r16_1 r16_2
   obtain⟨q17_0,q17_1,q17_2,q17_3,q17_4,q17_5⟩:=(HC _ HB.out).out
   clear hb17
   have r17_0:=Nat.lt_of_lt_of_le (show w.heap.size<W.heap.size by have:=HWs.out;omega) HB.out.size
   have r17_1:=Nat.lt_of_lt_of_le (show w.heap.size+1<W.heap.size by have:=HWs.out;omega) HB.out.size
   have r17_2:=Nat.lt_of_lt_of_le (show w.heap.size+1+1<W.heap.size by have:=HWs.out;omega) HB.out.size
   go_wp2_with fail
   go_ret
   exact⟨by simp at h1;simp[h1],(HW.out.trans (HB.out.mono (by have:=HWs.out;omega)))⟩
end Go.Proofs.Ythopjhifepijiaa
