/- Lemmas on the way to the statement. -/
import Derived.Test.YthopjhifepijiaaJ6
import Derived.Laws.AppendOwnNone
import Derived.Laws.OwnMore
set_option linter.unusedSimpArgs false
set_option linter.unusedVariables false
namespace Go.Proofs.Ythopjhifepijiaa
open Go.RowKit
open Go.Maps (Keyed)
theorem rightE (va ea:Option Addr) (vc ec:Nat) (w:World):Calls Try.prog 12 #[.agg #[.slice va 0 vc, .slice ea 0 ec]] w fun e w'=>e= .returned (.bool true)∧Below w.heap.size w w':=by
 have h:=right_any (w:=w) (B:=0) (vc:=vc) (va:=va) (ea:=ea) (p:=⟨[],[]⟩) (en:=0) (vn:=0) (ec:=ec) ⟨rfl, .inl rfl⟩ ⟨rfl, .inl rfl⟩ (Nat.zero_le _) (by omega) (by omega) (Nat.zero_le _) ⟨fun v hv=>absurd hv (by simp),fun v hv=>absurd hv (by simp)⟩
 rw[rightB_iff.2 ⟨by simp,by simp,fun i v h=>by simp at h,fun i v h=>by simp at h⟩] at h
 exact h
set_option maxRecDepth 100000 in
set_option maxHeartbeats 2000000 in
theorem turnE (va ea:Option Addr) (vc ec:Nat) (w:World):Calls Try.prog 47 #[.agg #[.slice va 0 vc, .slice ea 0 ec]] w fun e w'=> ∃m1 m2 m3 m4,e= .returned (.agg #[.map (some m1), .map (some m2), .map (some m3), .map (some m4)])∧Below w.heap.size w w':=by
 have hmm:= @run_makeMap Try.prog
 go_enter Try.func47,Try.ntmps47
 go_wp2_with fail
 first|refine wp_name (fun W hW=> ?_)|refine calls_name (fun W hW=> ?_)
 have HW:Hid (Below w.heap.size w W):=Lib.hid (by rw[←hW];repeat (first|exact Below.refl _ _|refine below_alloc ?_))
 have HWs:Hid (W.heap.size=w.heap.size+1+1+1+1+1+1+1):=Lib.hid (by rw[←hW];simp)
 have HBW:Hid (W.heap.size≤W.heap.size):=Lib.hid (by have:=HWs.out;omega)
 have HC:=fun(W1:World) (hb:Below (W.heap.size) W W1)=>Lib.hid (show W1.cell? ⟨w.heap.size,0,none⟩=some (.slice va 0 vc)∧W1.cell? ⟨w.heap.size,1,none⟩=some (.slice ea 0 ec)∧W1.cell? ⟨w.heap.size+1,0,none⟩=some (.map none)∧W1.cell? ⟨w.heap.size+1,1,none⟩=some (.map none)∧W1.cell? ⟨w.heap.size+1,2,none⟩=some (.map none)∧W1.cell? ⟨w.heap.size+1,3,none⟩=some (.map none)∧W1.cell? ⟨w.heap.size+1+1+1+1+1+1,0,none⟩=some (.map (some (w.heap.size+1+1)))∧W1.cell? ⟨w.heap.size+1+1+1+1+1+1,1,none⟩=some (.map (some (w.heap.size+1+1+1)))∧W1.cell? ⟨w.heap.size+1+1+1+1+1+1,2,none⟩=some (.map (some (w.heap.size+1+1+1+1)))∧W1.cell? ⟨w.heap.size+1+1+1+1+1+1,3,none⟩=some (.map (some (w.heap.size+1+1+1+1+1))) from by have hs:=HWs.out;refine⟨?_, ?_, ?_, ?_, ?_, ?_, ?_, ?_, ?_, ?_⟩<;>(refine(hb.cell (by dsimp only;omega)).trans ?_;rw[←hW];clear hW;go_simp))
 have HB:=Lib.hid (Below.refl (W.heap.size) W)
 have HZ:=fun(W1:World) (hb:W.heap.size≤W1.heap.size)=>Lib.hid (show w.heap.size<W1.heap.size∧w.heap.size+1<W1.heap.size∧w.heap.size+1+1+1+1+1+1<W1.heap.size from by have:=HWs.out;refine⟨?_, ?_, ?_⟩<;>omega)
 obtain⟨qx0,qx1,qx2,qx3,qx4,qx5,qx6,qx7,qx8,qx9⟩:=(HC _ HB.out).out
 obtain⟨rx0,rx1,rx2⟩:=(HZ _ HB.out.size).out
 have HM:Hid (MapT W Try.prog 3 (w.heap.size+1+1+1+1) 0 ekI (fun v:Value=>v) (fun _=>none)):=Lib.hid (by
  have e:((((w.alloc (.cells #[.slice va 0 vc, .slice ea 0 ec] 30)).alloc (.cells #[.map none, .map none, .map none, .map none] 118)).alloc (.map #[] 0)).alloc (.map #[] 0)).heap.size=w.heap.size+1+1+1+1:=by simp
  have h1:=MapT.made ((((w.alloc (.cells #[.slice va 0 vc, .slice ea 0 ec] 30)).alloc (.cells #[.map none, .map none, .map none, .map none] 118)).alloc (.map #[] 0)).alloc (.map #[] 0)) Try.prog 3 ekI (fun v:Value=>v)
  rw[e] at h1
  rw[←hW]
  exact MapT.alloc (MapT.alloc h1 _) _)
 have HFZ:Hid (∀j,W.frozen? ⟨w.heap.size+1,j,none⟩=false):=Lib.hid (fun j=>by rw[←hW];clear hW;go_simp)
 clear hW
 refine wp_loop_rounds 1 ?_
 rw[rounds_succ]
 go_wp2_with fail
 refine wp_loop_rounds 1 ?_
 rw[rounds_succ]
 go_wp2_with (at_range;refine wpList_range_T _ rfl _ 115 rfl 3 33 Try.keyInt Try.underlying115 (w.heap.size+1+1+1+1) 0 ekI (fun v:Value=>v) (fun _=>none) rfl HM.out ?_;intro w5 cnt hrg hg5 hs5;have HRG:=Lib.hid hrg;have HB5:=Lib.hid (HB.out.grown hg5 HB.out.size (by simp));clear hrg hg5)
 go_frame
 have HB:=HB5
 clear qx0 qx1 qx2 qx3 qx4 qx5 qx6 qx7 qx8 qx9 rx0 rx1 rx2
 obtain⟨qx0,qx1,qx2,qx3,qx4,qx5,qx6,qx7,qx8,qx9⟩:=(HC _ HB.out).out
 obtain⟨rx0,rx1,rx2⟩:=(HZ _ HB.out.size).out
 have fz:=fun j=>(HB.out.frozen (p:=⟨w.heap.size+1,j,none⟩) (show w.heap.size+1<W.heap.size by have:=HWs.out;omega)).trans (HFZ.out j)
 refine wp_loop_rounds 1 ?_
 rw[rounds_succ]
 go_wp2_with (at_next;refine wpList_next_T _ rfl _ rfl 3 Try.keyInt (w.heap.size+1+1+1+1) W.heap.size 0 ekI (fun v:Value=>v) (fun _=>none) (fun x=>(none:Option Value).isSome) cnt (fun key kl hk=>by obtain⟨x,rfl,_⟩:=Maps.keyOf_int_inv Try.underlying3 hk;exact⟨x,rfl⟩) (fun y z h=>ekI_inj _ _ h) rfl HRG.out ?_ (fun x u l w' cnt' hk hl hg=>by cases hl);intro _)
 exact bodyPost_ret (v:= .agg #[.map (some (w.heap.size+1+1)), .map (some (w.heap.size+1+1+1)), .map (some (w.heap.size+1+1+1+1)), .map (some (w.heap.size+1+1+1+1+1))]) (by simp[results,Try.results47,go_sem, *]) rfl
  ⟨_,_,_,_,rfl,((((HW.out.trans (HB.out.mono HW.out.size)).setCell (by simp) _).setCell (by simp) _).setCell (by simp) _).setCell (by simp) _⟩
set_option maxRecDepth 100000 in
set_option maxHeartbeats 2000000 in
theorem ringsE (va ea:Option Addr) (vc ec:Nat) (w:World):Calls Try.prog 19 #[.agg #[.slice va 0 vc, .slice ea 0 ec]] w fun e w'=>e= .returned (.slice none 0 0)∧Below w.heap.size w w':=by
 have hmm:= @run_makeMap Try.prog
 go_enter Try.func19,Try.ntmps19
 go_wp2_with fail
 first|refine wp_name (fun W hW=> ?_)|refine calls_name (fun W hW=> ?_)
 have HW:Hid (Below w.heap.size w W):=Lib.hid (by rw[←hW];repeat (first|exact Below.refl _ _|refine below_alloc ?_))
 have HWs:Hid (W.heap.size=w.heap.size+1):=Lib.hid (by rw[←hW];simp)
 have HBW:Hid (W.heap.size≤W.heap.size):=Lib.hid (by have:=HWs.out;omega)
 have HC:=fun(W1:World) (hb:Below (W.heap.size) W W1)=>Lib.hid (show W1.cell? ⟨w.heap.size,0,none⟩=some (.slice va 0 vc)∧W1.cell? ⟨w.heap.size,1,none⟩=some (.slice ea 0 ec) from by have hs:=HWs.out;refine⟨?_, ?_⟩<;>(refine(hb.cell (by dsimp only;omega)).trans ?_;rw[←hW];clear hW;go_simp))
 have HB:=Lib.hid (Below.refl (W.heap.size) W)
 clear hW
 have HZ:=fun(W1:World) (hb:W.heap.size≤W1.heap.size)=>Lib.hid (show w.heap.size<W1.heap.size from by have:=HWs.out;omega)
 obtain⟨qx0,qx1⟩:=(HC _ HB.out).out
 have rx0:=(HZ _ HB.out.size).out
 refine(rightE _ _ _ _ _).mono ?_
 rintro e w4 ⟨rfl,hb4⟩
 have HB:=bnx HB HBW hb4
 clear qx0 qx1 rx0
 obtain⟨qx0,qx1⟩:=(HC _ HB.out).out
 clear hb4
 have rx0:=(HZ _ HB.out.size).out
 go_wp2_with fail
 refine(turnE _ _ _ _ _).mono ?_
 rintro e w2 ⟨m1,m2,m3,m4,rfl,hb2⟩
 have HB:=Lib.hid (below_next HB.out (Nat.le_trans HBW.out HB.out.size) hb2)
 clear qx0 qx1 rx0
 obtain⟨qx0,qx1⟩:=(HC _ HB.out).out
 have rx0:=(HZ _ HB.out.size).out
 clear hb2
 go_wp2_with fail
 refine wp_loop_rounds 1 ?_
 rw[rounds_succ]
 go_wp2_with fail
 go_ret
 exact⟨rfl,((HW.out.trans (HB.out.mono HW.out.size)).alloc (Nat.le_trans HW.out.size HB.out.size) _).alloc (by have h1:=HW.out.size;have h2:=HB.out.size;simp;omega) _⟩
set_option maxRecDepth 100000 in
set_option maxHeartbeats 2000000 in
theorem linksE (va ea:Option Addr) (vc ec:Nat) (w:World):Calls Try.prog 63 #[.agg #[.slice va 0 vc, .slice ea 0 ec]] w fun e w'=>e= .returned (.tuple #[.map (some (w.heap.size+1)), .map (some (w.heap.size+1+1))])∧Below w.heap.size w w':=by
 have hmm:= @run_makeMap Try.prog
 go_enter Try.func63,Try.ntmps63
 go_wp2_with fail
 first|refine wp_name (fun W hW=> ?_)|refine calls_name (fun W hW=> ?_)
 have HW:Hid (Below w.heap.size w W):=Lib.hid (by rw[←hW];repeat (first|exact Below.refl _ _|refine below_alloc ?_))
 have HWs:Hid (W.heap.size=w.heap.size+1+1+1):=Lib.hid (by rw[←hW];simp)
 have HBW:Hid (W.heap.size≤W.heap.size):=Lib.hid (by have:=HWs.out;omega)
 have HC:=fun(W1:World) (hb:Below (W.heap.size) W W1)=>Lib.hid (show W1.cell? ⟨w.heap.size,0,none⟩=some (.slice va 0 vc)∧W1.cell? ⟨w.heap.size,1,none⟩=some (.slice ea 0 ec) from by have hs:=HWs.out;refine⟨?_, ?_⟩<;>(refine(hb.cell (by dsimp only;omega)).trans ?_;rw[←hW];clear hW;go_simp))
 have HB:=Lib.hid (Below.refl (W.heap.size) W)
 clear hW
 have HZ:=fun(W1:World) (hb:W.heap.size≤W1.heap.size)=>Lib.hid (show w.heap.size<W1.heap.size from by have:=HWs.out;omega)
 obtain⟨qx0,qx1⟩:=(HC _ HB.out).out
 have rx0:=(HZ _ HB.out.size).out
 refine(ringsE _ _ _ _ _).mono ?_
 rintro e w7 ⟨rfl,hb7⟩
 have HB:=bnx HB HBW hb7
 clear qx0 qx1 rx0
 obtain⟨qx0,qx1⟩:=(HC _ HB.out).out
 clear hb7
 have rx0:=(HZ _ HB.out.size).out
 go_wp2_with fail
 refine wp_loop_rounds 1 ?_
 rw[rounds_succ]
 go_wp2_with fail
 go_ret2
 exact⟨rfl,bfn HW HB⟩
set_option maxRecDepth 100000 in
set_option maxHeartbeats 2000000 in
theorem piecesE (va ea:Option Addr) (vc ec:Nat) (w:World):Calls Try.prog 70 #[.agg #[.slice va 0 vc, .slice ea 0 ec]] w fun e w'=> ∃v,e= .returned v∧Below w.heap.size w w':=by
 have hmm:= @run_makeMap Try.prog
 have hmf: ∀(a b:Value) (w:World),(Instr.makeFunc (Fn.func 92) #[] #[a,b]).run Try.prog w= .ok (.func (Fn.func 92) #[] #[a,b]) w:=fun a b w=>by kernel_rfl
 go_enter Try.func70,Try.ntmps70
 go_wp2_with fail
 refine wp_loop_rounds 1 ?_
 rw[rounds_succ]
 go_wp2_with fail
 go_ret
 refine⟨_,rfl, ?_⟩
 repeat (first|exact Below.refl _ _|refine below_alloc ?_|refine Below.setCell ?_ (by simp) _)
def PartE (w:World) (b:Nat):Prop:=w.cell? ⟨b,0,none⟩=some (.slice none 0 0)∧w.cell? ⟨b,1,none⟩=some (.slice none 0 0)∧w.cell? ⟨b,2,none⟩=some (.slice none 0 0)
theorem PartE.below {w w':World} {b B:Nat} (h:PartE w b) (hb:Below B w w') (hlt:b<B):PartE w' b:=
 ⟨(hb.cell (p:=⟨b,0,none⟩) hlt).trans h.1,(hb.cell (p:=⟨b,1,none⟩) hlt).trans h.2.1,(hb.cell (p:=⟨b,2,none⟩) hlt).trans h.2.2⟩
set_option maxRecDepth 100000 in
set_option maxHeartbeats 2000000 in
theorem realmsE (va ea:Option Addr) (vc ec:Nat) (w:World):Calls Try.prog 38 #[.agg #[.slice va 0 vc, .slice ea 0 ec]] w fun e w'=> ∃b,e= .returned (.tuple #[.slice (some ⟨b,0,none⟩) 1 1, .slice none 0 0])∧w.heap.size≤b∧b<w'.heap.size∧PartE w' b∧Below w.heap.size w w':=by
 go_enter Try.func38,Try.ntmps38
 go_wp2_with fail
 first|refine wp_name (fun W hW=> ?_)|refine calls_name (fun W hW=> ?_)
 have HW:Hid (Below w.heap.size w W):=Lib.hid (by rw[←hW];repeat (first|exact Below.refl _ _|refine below_alloc ?_))
 have HWs:Hid (W.heap.size=w.heap.size+1):=Lib.hid (by rw[←hW];simp)
 have HBW:Hid (W.heap.size≤W.heap.size):=Lib.hid (by have:=HWs.out;omega)
 have HC:=fun(W1:World) (hb:Below (W.heap.size) W W1)=>Lib.hid (show W1.cell? ⟨w.heap.size,0,none⟩=some (.slice va 0 vc)∧W1.cell? ⟨w.heap.size,1,none⟩=some (.slice ea 0 ec) from by have hs:=HWs.out;refine⟨?_, ?_⟩<;>(refine(hb.cell (by dsimp only;omega)).trans ?_;rw[←hW];clear hW;go_simp))
 have HB:=Lib.hid (Below.refl (W.heap.size) W)
 clear hW
 have HZ:=fun(W1:World) (hb:W.heap.size≤W1.heap.size)=>Lib.hid (show w.heap.size<W1.heap.size from by have:=HWs.out;omega)
 obtain⟨qx0,qx1⟩:=(HC _ HB.out).out
 have rx0:=(HZ _ HB.out.size).out
 refine(rightE _ _ _ _ _).mono ?_
 rintro e w10 ⟨rfl,hb10⟩
 have HB:=bnx HB HBW hb10
 clear qx0 qx1 rx0
 obtain⟨qx0,qx1⟩:=(HC _ HB.out).out
 clear hb10
 have rx0:=(HZ _ HB.out.size).out
 go_wp2_with fail
 refine(piecesE _ _ _ _ _).mono ?_
 rintro e w2 ⟨pv,rfl,hb2⟩
 have HB:=Lib.hid (below_next HB.out (Nat.le_trans HBW.out HB.out.size) hb2)
 clear qx0 qx1 rx0
 obtain⟨qx0,qx1⟩:=(HC _ HB.out).out
 have rx0:=(HZ _ HB.out.size).out
 clear hb2
 go_wp2_with fail
 have hpe:PartE (w2.alloc (.cells #[.slice none 0 0, .slice none 0 0, .slice none 0 0] 41)) w2.heap.size:=by unfold PartE;simp[World.cell?_alloc_new]
 have HPE:=Lib.hid hpe
 have HSZ:Hid (w.heap.size≤w2.heap.size):=Lib.hid (Nat.le_trans HW.out.size HB.out.size)
 clear hpe
 refine(ringsE _ _ _ _ _).mono ?_
 rintro e w12 ⟨rfl,hb12⟩
 have HB:=bnx HB HBW hb12
 clear qx0 qx1 rx0
 obtain⟨qx0,qx1⟩:=(HC _ HB.out).out
 have HPE:=Lib.hid (HPE.out.below hb12 (by simp));have HLT:Hid (w2.heap.size<w12.heap.size):=Lib.hid (by have:=hb12.size;simp at this;omega)
 clear hb12
 have rx0:=(HZ _ HB.out.size).out
 go_wp2_with fail
 refine wp_loop_rounds 1 ?_
 rw[rounds_succ]
 go_wp2_with fail
 refine wp_loop_rounds 1 ?_
 rw[rounds_succ]
 go_wp2_with fail
 refine wp_loop_rounds 1 ?_
 rw[rounds_succ]
 go_wp2_with fail
 go_ret2
 exact⟨_,rfl,HSZ.out,HLT.out,HPE.out,HW.out.trans (HB.out.mono HW.out.size)⟩
set_option maxRecDepth 100000 in
theorem partsE (va ea:Option Addr) (vc ec:Nat) (w:World):Calls Try.prog 10 #[.agg #[.slice va 0 vc, .slice ea 0 ec]] w fun e w'=> ∃b,e= .returned (.slice (some ⟨b,0,none⟩) 1 1)∧w.heap.size≤b∧b<w'.heap.size∧PartE w' b∧Below w.heap.size w w':=by
 go_enter Try.func10,Try.ntmps10
 go_wp2_with fail
 refine(realmsE _ _ _ _ _).mono ?_
 rintro e w2 ⟨b,rfl,h1,h2,h3,h4⟩
 have H1:=Lib.hid h1
 have H2:=Lib.hid h2
 have H3:=Lib.hid h3
 have H4:=Lib.hid h4
 clear h1 h2 h3 h4
 go_wp2_with fail
 go_ret
 refine⟨b,rfl,by have:=H1.out;simp at this;omega,H2.out,H3.out,below_step H4.out (below_alloc (Below.refl _ _))⟩
end Go.Proofs.Ythopjhifepijiaa
namespace Go.Proofs.Ythopjhifepijiaa
open Go.RowKit
open Go.Maps (Keyed)
set_option maxRecDepth 100000 in
theorem idxE (f:Value) (w:World):Calls Try.prog 90 #[.slice none 0 0,f] w fun e w'=>e= .returned (.int .i64 (-1))∧Below w.heap.size w w':=by
 go_enter Try.func90,Try.ntmps90
 go_wp2_with fail
 refine wp_loop_rounds 1 ?_
 rw[rounds_succ]
 go_wp2_with fail
 go_ret
 exact⟨rfl,Below.refl _ _⟩
set_option maxRecDepth 100000 in
theorem containsE (f:Value) (w:World):Calls Try.prog 61 #[.slice none 0 0,f] w fun e w'=>e= .returned (.bool false)∧Below w.heap.size w w':=by
 go_enter Try.func61,Try.ntmps61
 go_wp2_with fail
 refine(idxE _ _).mono ?_
 rintro e w2 ⟨rfl,hb⟩
 have HB:=Lib.hid hb
 clear hb
 go_wp2_with fail
 go_ret
 exact⟨rfl,HB.out⟩
theorem set_ne (w:World) (b c o j:Nat) (hne:c≠b) (v:Value):(w.setCell ⟨b,j,none⟩ v).cell? ⟨c,o,none⟩=w.cell? ⟨c,o,none⟩:=by
 apply World.cell?_setCell_other
 intro h
 injection h with h1 _ _
 exact hne h1.symm
theorem set6 (w:World) (b c o:Nat) (hne:c≠b) (v0 v1 v2 v3 v4 v5:Value):((((((w.setCell ⟨b,0,none⟩ v0).setCell ⟨b,1,none⟩ v1).setCell ⟨b,2,none⟩ v2).setCell ⟨b,3,none⟩ v3).setCell ⟨b,4,none⟩ v4).setCell ⟨b,5,none⟩ v5).cell? ⟨c,o,none⟩=w.cell? ⟨c,o,none⟩:=by
 rw[set_ne _ _ _ _ _ hne,set_ne _ _ _ _ _ hne,set_ne _ _ _ _ _ hne,set_ne _ _ _ _ _ hne,set_ne _ _ _ _ _ hne,set_ne _ _ _ _ _ hne]
set_option maxRecDepth 100000 in
set_option maxHeartbeats 4000000 in
theorem drawE (w:World):Calls Try.prog 29 #[.agg #[.slice none 0 0, .slice none 0 0], .slice none 0 0] w fun e w'=> ∃fb c,e= .returned (.tuple #[.agg #[.int .i64 0, .int .i64 0, .int .i64 0, .slice none 0 0, .slice none 0 0, .slice (some ⟨fb,0,none⟩) 1 c], .int .i64 0])∧w'.cell? ⟨fb,0,none⟩=some (.int .i64 0)∧w'.cell? ⟨fb,1,none⟩=some (.int .i64 0)∧w.heap.size≤fb∧Below w.heap.size w w':=by
 have hmm:= @run_makeMap Try.prog
 go_enter Try.func29,Try.ntmps29
 go_wp2_with fail
 first|refine wp_name (fun W hW=> ?_)|refine calls_name (fun W hW=> ?_)
 have HW:Hid (Below w.heap.size w W):=Lib.hid (by rw[←hW];repeat (first|exact Below.refl _ _|refine below_alloc ?_))
 have HWs:Hid (W.heap.size=w.heap.size+1+1):=Lib.hid (by rw[←hW];simp)
 have HBW:Hid (W.heap.size≤W.heap.size):=Lib.hid (by have:=HWs.out;omega)
 have HC:=fun(W1:World) (hb:Below (W.heap.size) W W1)=>Lib.hid (show W1.cell? ⟨w.heap.size,0,none⟩=some (.slice none 0 0)∧W1.cell? ⟨w.heap.size,1,none⟩=some (.slice none 0 0)∧W1.cell? ⟨w.heap.size+1,0,none⟩=some (.int .i64 0)∧W1.cell? ⟨w.heap.size+1,1,none⟩=some (.int .i64 0)∧W1.cell? ⟨w.heap.size+1,2,none⟩=some (.int .i64 0)∧W1.cell? ⟨w.heap.size+1,3,none⟩=some (.slice none 0 0)∧W1.cell? ⟨w.heap.size+1,4,none⟩=some (.slice none 0 0)∧W1.cell? ⟨w.heap.size+1,5,none⟩=some (.slice none 0 0) from by have hs:=HWs.out;refine⟨?_, ?_, ?_, ?_, ?_, ?_, ?_, ?_⟩<;>(refine(hb.cell (by dsimp only;omega)).trans ?_;rw[←hW];clear hW;go_simp))
 have HB:=Lib.hid (Below.refl (W.heap.size) W)
 have HZ:=fun(W1:World) (hb:W.heap.size≤W1.heap.size)=>Lib.hid (show w.heap.size<W1.heap.size∧w.heap.size+1<W1.heap.size from by have:=HWs.out;refine⟨?_, ?_⟩<;>omega)
 obtain⟨qx0,qx1,qx2,qx3,qx4,qx5,qx6,qx7⟩:=(HC _ HB.out).out
 obtain⟨rx0,rx1⟩:=(HZ _ HB.out.size).out
 have HFZ:=fun(W1:World) (hb:Below W.heap.size W W1)=>Lib.hid (show∀j,W1.frozen? ⟨w.heap.size+1,j,none⟩=false from fun j=>(hb.frozen (p:=⟨w.heap.size+1,j,none⟩) (show w.heap.size+1<W.heap.size by have:=HWs.out;omega)).trans (by rw[←hW];clear hW;go_simp))
 clear hW
 refine(rightE _ _ _ _ _).mono ?_
 rintro e w2 ⟨rfl,hb2⟩
 have HB:=bnx HB HBW hb2
 clear qx0 qx1 qx2 qx3 qx4 qx5 qx6 qx7 rx0 rx1
 obtain⟨qx0,qx1,qx2,qx3,qx4,qx5,qx6,qx7⟩:=(HC _ HB.out).out
 clear hb2
 obtain⟨rx0,rx1⟩:=(HZ _ HB.out.size).out
 go_wp2_with fail
 refine(containsE _ _).mono ?_
 rintro e w3 ⟨rfl,hb3⟩
 have HB:=bnx HB HBW hb3
 clear qx0 qx1 qx2 qx3 qx4 qx5 qx6 qx7 rx0 rx1
 obtain⟨qx0,qx1,qx2,qx3,qx4,qx5,qx6,qx7⟩:=(HC _ HB.out).out
 clear hb3
 obtain⟨rx0,rx1⟩:=(HZ _ HB.out.size).out
 go_wp2_with fail
 refine(linksE _ _ _ _ _).mono ?_
 rintro e wl ⟨rfl,hb4⟩
 have HB:=bnx HB HBW hb4
 clear qx0 qx1 qx2 qx3 qx4 qx5 qx6 qx7 rx0 rx1
 obtain⟨qx0,qx1,qx2,qx3,qx4,qx5,qx6,qx7⟩:=(HC _ HB.out).out
 clear hb4
 obtain⟨rx0,rx1⟩:=(HZ _ HB.out.size).out
 have rx0_0:=Nat.lt_succ_of_lt rx0
 have rx0_1:=Nat.lt_succ_of_lt rx0_0
 have rx0_2:=Nat.lt_succ_of_lt rx0_1
 have rx1_0:=Nat.lt_succ_of_lt rx1
 have rx1_1:=Nat.lt_succ_of_lt rx1_0
 have rx1_2:=Nat.lt_succ_of_lt rx1_1
 go_wp2_with fail
 have HWL:Hid (W.heap.size≤wl.heap.size):=Lib.hid HB.out.size
 first|refine wp_name (fun W2 hW2=> ?_)|refine calls_name (fun W2 hW2=> ?_)
 have HW2:Hid (Below wl.heap.size wl W2):=Lib.hid (by rw[←hW2];repeat (first|exact Below.refl _ _|refine below_alloc ?_))
 have HWs2:Hid (W2.heap.size=wl.heap.size+1+1+1):=Lib.hid (by rw[←hW2];simp)
 have HBW2:Hid (W2.heap.size≤W2.heap.size):=Lib.hid (by have:=HWs2.out;omega)
 have HC2:=fun(W1:World) (hb:Below (W2.heap.size) W2 W1)=>Lib.hid (show W1.cell? ⟨w.heap.size,0,none⟩=some (.slice none 0 0)∧W1.cell? ⟨w.heap.size,1,none⟩=some (.slice none 0 0)∧W1.cell? ⟨w.heap.size+1,0,none⟩=some (.int .i64 0)∧W1.cell? ⟨w.heap.size+1,1,none⟩=some (.int .i64 0)∧W1.cell? ⟨w.heap.size+1,2,none⟩=some (.int .i64 0)∧W1.cell? ⟨w.heap.size+1,3,none⟩=some (.slice none 0 0)∧W1.cell? ⟨w.heap.size+1,4,none⟩=some (.slice none 0 0)∧W1.cell? ⟨w.heap.size+1,5,none⟩=some (.slice none 0 0)∧W1.cell? ⟨wl.heap.size+1+1,0,none⟩=some (.int .i64 0)∧W1.cell? ⟨wl.heap.size+1+1,1,none⟩=some (.int .i64 0)∧W1.cell? ⟨wl.heap.size+1+1,2,none⟩=some (.int .i64 0)∧W1.cell? ⟨wl.heap.size+1+1,3,none⟩=some (.slice none 0 0)∧W1.cell? ⟨wl.heap.size+1+1,4,none⟩=some (.slice none 0 0)∧W1.cell? ⟨wl.heap.size+1+1,5,none⟩=some (.slice none 0 0) from by have ho:=(HC W1 (in_of HB.out HW2.out hb (Nat.le_trans HBW.out HB.out.size) (by have h1:=HBW.out;have h2:=HB.out.size;have h3:=HW2.out.size;have h4:=HWs2.out;omega))).out;have hs:=HWs2.out;have z1:=HWs.out;have z2:=HB.out.size;refine⟨ho.1,ho.2.1,ho.2.2.1,ho.2.2.2.1,ho.2.2.2.2.1,ho.2.2.2.2.2.1,ho.2.2.2.2.2.2.1,ho.2.2.2.2.2.2.2, ?_, ?_, ?_, ?_, ?_, ?_⟩<;>(refine(hb.cell (by dsimp only;omega)).trans ?_;rw[←hW2];clear hW2;go_simp))
 have HB2:=Lib.hid (Below.refl (W2.heap.size) W2)
 have HZ2:=fun(W1:World) (hb:W2.heap.size≤W1.heap.size)=>Lib.hid (show w.heap.size<W1.heap.size∧w.heap.size+1<W1.heap.size∧wl.heap.size+1+1<W1.heap.size from by obtain⟨o0,o1⟩:=(HZ _ HB.out.size).out;have h3:=HW2.out.size;have:=HWs2.out;refine⟨?_, ?_, ?_⟩<;>omega)
 clear qx0 qx1 qx2 qx3 qx4 qx5 qx6 qx7 rx0 rx1 rx0_0 rx0_1 rx0_2 rx1_0 rx1_1 rx1_2
 obtain⟨qx0,qx1,qx2,qx3,qx4,qx5,qx6,qx7,qx8,qx9,qx10,qx11,qx12,qx13⟩:=(HC2 _ HB2.out).out
 obtain⟨rx0,rx1,rx2⟩:=(HZ2 _ HB2.out.size).out
 have HRT:Hid (W2.rowIs (wl.heap.size+1+1) 73 6 (fun j=>if j<3 then .int .i64 0 else .slice none 0 0)):=Lib.hid (by
  have e:((wl.alloc (.map #[] 0)).alloc (.map #[] 0)).heap.size=wl.heap.size+1+1:=by simp
  rw[←hW2, ←e]
  exact World.rowIs_alloc _ #[.int .i64 0, .int .i64 0, .int .i64 0, .slice none 0 0, .slice none 0 0, .slice none 0 0] _ _ (fun i hi=>by rcases i with _|_|_|_|_|_|i<;>first|rfl|(simp at hi;omega)))
 clear hW2
 refine(partsE _ _ _ _ _).mono ?_
 rintro e wp ⟨pb,rfl,hp1,hp2,hp3,hpb⟩
 have HB2:=Lib.hid (below_next HB2.out (Nat.le_trans HBW2.out HB2.out.size) hpb)
 clear qx0 qx1 qx2 qx3 qx4 qx5 qx6 qx7 qx8 qx9 qx10 qx11 qx12 qx13 rx0 rx1 rx2
 obtain⟨qx0,qx1,qx2,qx3,qx4,qx5,qx6,qx7,qx8,qx9,qx10,qx11,qx12,qx13⟩:=(HC2 _ HB2.out).out
 obtain⟨rx0,rx1,rx2⟩:=(HZ2 _ HB2.out.size).out
 have HRT:=Lib.hid (rowIs_touch (F:=[]) HRT.out (Touch.of_below hpb) (by simp))
 obtain⟨pc0,pc1,pc2⟩:=hp3
 have rt:=fun j (hj:j<6)=>World.rowIs.cell HRT.out hj
 have rt5:=rt 5 (by decide)
 have rt2:=rt 2 (by decide)
 have ft:=fun j=>World.rowIs.frozen HRT.out j
 have rt0:=rt 0 (by decide)
 have rt1:=rt 1 (by decide)
 have rt3:=rt 3 (by decide)
 have rt4:=rt 4 (by decide)
 simp only[show¬(5<3) by decide,show¬(4<3) by decide,show¬(3<3) by decide,show(2<3) by decide,show(1<3) by decide,show(0<3) by decide,if_true,if_false] at rt0 rt1 rt2 rt3 rt4 rt5
 have rl:=World.rowIs.lt HRT.out
 clear hpb hp1 rt
 have rx0_0:=Nat.lt_succ_of_lt rx0
 have rx0_1:=Nat.lt_succ_of_lt rx0_0
 have rx0_2:=Nat.lt_succ_of_lt rx0_1
 have rx0_3:=Nat.lt_succ_of_lt rx0_2
 have rx1_0:=Nat.lt_succ_of_lt rx1
 have rx1_1:=Nat.lt_succ_of_lt rx1_0
 have rx1_2:=Nat.lt_succ_of_lt rx1_1
 have rx1_3:=Nat.lt_succ_of_lt rx1_2
 have rx2_0:=Nat.lt_succ_of_lt rx2
 have rx2_1:=Nat.lt_succ_of_lt rx2_0
 have rx2_2:=Nat.lt_succ_of_lt rx2_1
 have rx2_3:=Nat.lt_succ_of_lt rx2_2
 have rl1:=Nat.lt_succ_of_lt rl
 have rl2:=Nat.lt_succ_of_lt rl1
 have rl3:=Nat.lt_succ_of_lt rl2
 go_wp2_with fail
 refine wp_loop_rounds 2 ?_
 rw[rounds_succ]
 go_wp2_with fail
 have HB:=Lib.hid (in_of HB.out HW2.out HB2.out (Nat.le_trans HBW.out HB.out.size) (by have h1:=HBW.out;have h2:=HB.out.size;have h3:=HW2.out.size;have h4:=HWs2.out;omega))
 have HPL:Hid (W2.heap.size≤wp.heap.size):=Lib.hid HB2.out.size
 obtain⟨cp,hcp⟩: ∃cp,cp=(Question.appendCap 1 0 83).cut (wp.tape wp.drawn (Question.appendCap 1 0 83)):=⟨_,rfl⟩
 rw[←hcp]
 refine wp_name (fun W3 hW3=> ?_)
 have HB3:Hid (Below W.heap.size W W3):=Lib.hid (by
  rw[←hW3]
  refine Below.drew (Below.alloc (Below.alloc (Below.alloc (Below.alloc (Below.alloc (Below.setCell (Below.setCell HB.out ?_ _) ?_ _) ?_ _) ?_ _) ?_ _) ?_ _) ?_ _)
  all_goals (have h1:=HB.out.size;have h2:=HPL.out;have h3:=HWs2.out;have h4:=HW2.out.size;have h5:=HWL.out;simp;omega))
 have z0:W3.cell? ⟨w.heap.size,0,none⟩=some (.slice none 0 0):=(HC _ HB3.out).out.1
 have z1:W3.cell? ⟨w.heap.size,1,none⟩=some (.slice none 0 0):=(HC _ HB3.out).out.2.1
 have t0:W3.cell? ⟨wl.heap.size+1+1,0,none⟩=some (.int .i64 0):=by rw[←hW3];clear hW3;go_simp
 have t1:W3.cell? ⟨wl.heap.size+1+1,1,none⟩=some (.int .i64 0):=by rw[←hW3];clear hW3;go_simp
 have t2:W3.cell? ⟨wl.heap.size+1+1,2,none⟩=some (.int .i64 0):=by rw[←hW3];clear hW3;go_simp
 have t3:W3.cell? ⟨wl.heap.size+1+1,3,none⟩=some (.slice none 0 0):=by rw[←hW3];clear hW3;go_simp
 have t4:W3.cell? ⟨wl.heap.size+1+1,4,none⟩=some (.slice none 0 0):=by rw[←hW3];clear hW3;go_simp
 have t5:W3.cell? ⟨wl.heap.size+1+1,5,none⟩=some (.slice (some ⟨wp.heap.size+1+1+1,0,none⟩) 1 cp):=by rw[←hW3];clear hW3;go_simp
 have p0:W3.cell? ⟨wp.heap.size,0,none⟩=some (.slice none 0 0):=by rw[←hW3];clear hW3;go_simp
 have p1:W3.cell? ⟨wp.heap.size,1,none⟩=some (.slice none 0 0):=by rw[←hW3];clear hW3;go_simp
 have p2:W3.cell? ⟨wp.heap.size,2,none⟩=some (.slice none 0 0):=by rw[←hW3];clear hW3;go_simp
 have s0:W3.cell? ⟨wp.heap.size+1+1+1+1,0,none⟩=some (.slice none 0 0):=by rw[←hW3];clear hW3;go_simp
 have f0:W3.cell? ⟨wp.heap.size+1+1+1,0,none⟩=some (.int .i64 0):=by rw[←hW3];clear hW3;go_simp;rw[Array.getElem?_append_left (by simp)];rfl
 have f1:W3.cell? ⟨wp.heap.size+1+1+1,1,none⟩=some (.int .i64 0):=by rw[←hW3];clear hW3;go_simp;rw[Array.getElem?_append_left (by simp)];rfl
 have fz:=(HFZ _ HB3.out).out
 obtain⟨_,_,rr0,rr1,rr2,rr3,rr4,rr5⟩:=(HC _ HB3.out).out
 have HFB:Hid (w.heap.size≤wp.heap.size+1+1+1):=Lib.hid (by have h1:=HW.out.size;have h2:=HWL.out;have h3:=HW2.out.size;have h4:=HPL.out;omega)
 have HF0:=Lib.hid f0
 have HF1:=Lib.hid f1
 have HNE:Hid (wp.heap.size+1+1+1≠w.heap.size+1):=Lib.hid (by have h1:=HWs.out;have h2:=HWL.out;have h3:=HWs2.out;have h4:=HPL.out;omega)
 clear hW3 rt0 rt1 rt2 rt3 rt4 rt5 ft rl rl1 rl2 rl3 f0 f1 pc0 pc1 pc2 hcp hp2
 clear qx0 qx1 qx2 qx3 qx4 qx5 qx6 qx7 qx8 qx9 qx10 qx11 qx12 qx13 rx0 rx1 rx2 rx0_0 rx0_1 rx0_2 rx0_3 rx1_0 rx1_1 rx1_2 rx1_3 rx2_0 rx2_1 rx2_2 rx2_3
 refine wp_loop_rounds 2 ?_
 rw[rounds_succ]
 go_wp2_with fail
 refine wp_loop_rounds 1 ?_
 rw[rounds_succ]
 go_wp2_with fail
 rw[rounds_succ]
 go_wp2_with fail
 refine wp_loop_rounds 1 ?_
 rw[rounds_succ]
 go_wp2_with fail
 rw[rounds_succ]
 go_wp2_with fail
 refine wp_loop_rounds 1 ?_
 rw[rounds_succ]
 go_wp2_with fail
 refine wp_loop_rounds 1 ?_
 rw[rounds_succ]
 go_wp2_with fail
 refine bodyPost_ret (v:= .tuple #[.agg #[.int .i64 0, .int .i64 0, .int .i64 0, .slice none 0 0, .slice none 0 0, .slice (some ⟨wp.heap.size+1+1+1,0,none⟩) 1 cp], .int .i64 0]) (by simp[results,Try.results29,go_sem, *]) rfl ⟨_,cp,rfl, ?_, ?_,HFB.out, ?_⟩
 ·exact(set6 _ _ _ _ HNE.out _ _ _ _ _ _).trans HF0.out
 ·exact(set6 _ _ _ _ HNE.out _ _ _ _ _ _).trans HF1.out
 ·have h3:Below w.heap.size w W3:=HW.out.trans (HB3.out.mono HW.out.size)
  repeat (first|exact h3|refine Below.setCell ?_ (by simp) _)
end Go.Proofs.Ythopjhifepijiaa
