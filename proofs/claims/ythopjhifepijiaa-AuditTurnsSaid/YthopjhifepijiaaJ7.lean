/- Lemmas on the way to the statement. -/
import Derived.Test.YthopjhifepijiaaJ6
import Derived.BigRegion
import Derived.Laws.Externs
import Derived.RegionTactic
set_option linter.unusedSimpArgs false
set_option linter.unusedVariables false
namespace Go.Proofs.Ythopjhifepijiaa
open Go.RowKit Go.Joins
open Go.Maps (Keyed)
def endsP (p:PL) (h:Hf):Pt × Pt:=if h.back=true then((findV p.vs (findE p.es h.edge).b).at_,(findV p.vs (findE p.es h.edge).a).at_) else((findV p.vs (findE p.es h.edge).a).at_,(findV p.vs (findE p.es h.edge).b).at_)
set_option maxRecDepth 100000 in
set_option maxHeartbeats 4000000 in
theorem rends_any {w:World} {B vn vc en ec:Nat} {va ea:Option Addr} {p:PL} (hv:VsIn w B va vn p.vs) (he:EsIn w B ea en p.es) (hB:B≤w.heap.size) (hn:vn≤100000) (hm:en≤100000) (h:Hf):
  Calls Try.prog 58 #[.agg #[.slice va vn vc, .slice ea en ec], .agg #[.int .i64 h.edge, .bool h.back]] w fun e w'=>e= .returned (.tuple #[ptV (endsP p h).1,ptV (endsP p h).2, .bool (hasE p.es h.edge)])∧Below w.heap.size w w':=by
 have HED:=fun(W:World) (hb:Below w.heap.size w W)=>Lib.hid (edge_any (ec:=ec) (he.below (hb.mono hB)) (Nat.le_trans hB hb.size) hm (.slice va vn vc) ⟨_,_,_,rfl⟩ h.edge)
 have HVA:=fun(W:World) (hb:Below w.heap.size w W)=>Lib.hid (vertex_any (vc:=vc) (hv.below (hb.mono hB)) (Nat.le_trans hB hb.size) hn (.slice ea en ec) ⟨_,_,_,rfl⟩ (findE p.es h.edge).a)
 have HVB:=fun(W:World) (hb:Below w.heap.size w W)=>Lib.hid (vertex_any (vc:=vc) (hv.below (hb.mono hB)) (Nat.le_trans hB hb.size) hn (.slice ea en ec) ⟨_,_,_,rfl⟩ (findE p.es h.edge).b)
 unfold endsP
 obtain⟨hx,hbk⟩:=h
 simp only at HED HVA HVB ⊢
 generalize findE p.es hx=e at*
 generalize hasE p.es hx=ok at*
 generalize findV p.vs e.a=va_ at*
 generalize findV p.vs e.b=vb_ at*
 generalize hasV p.vs e.a=oka at*
 generalize hasV p.vs e.b=okb at*
 obtain⟨ei,e1,e2⟩:=e
 obtain⟨ai,⟨ax,ay⟩⟩:=va_
 obtain⟨bi,⟨bx,by_⟩⟩:=vb_
 simp only at HED HVA HVB ⊢
 clear hv he
 cases hbk
 ·go_enter Try.func58,Try.ntmps58
  go_wp2_with fail
  first|refine wp_name (fun W hW=> ?_)|refine calls_name (fun W hW=> ?_)
  have HW:Hid (Below w.heap.size w W):=Lib.hid (by rw[←hW];repeat (first|exact Below.refl _ _|refine below_alloc ?_))
  have HWs:Hid (W.heap.size=w.heap.size+1+1+1+1):=Lib.hid (by rw[←hW];simp)
  have HBW:Hid (W.heap.size≤W.heap.size):=Lib.hid (by have:=HWs.out;omega)
  have HC:=fun(W1:World) (hb:Below (W.heap.size) W W1)=>Lib.hid (show W1.cell? ⟨w.heap.size,0,none⟩=some (.slice va vn vc)∧W1.cell? ⟨w.heap.size,1,none⟩=some (.slice ea en ec)∧W1.cell? ⟨w.heap.size+1,0,none⟩=some (.int .i64 hx)∧W1.cell? ⟨w.heap.size+1,1,none⟩=some (.bool false)∧W1.cell? ⟨w.heap.size+1+1,0,none⟩=some (.int .i64 0)∧W1.cell? ⟨w.heap.size+1+1,1,none⟩=some (.int .i64 0)∧W1.cell? ⟨w.heap.size+1+1+1,0,none⟩=some (.int .i64 0)∧W1.cell? ⟨w.heap.size+1+1+1,1,none⟩=some (.int .i64 0) from by have hs:=HWs.out;refine⟨?_, ?_, ?_, ?_, ?_, ?_, ?_, ?_⟩<;>(refine(hb.cell (by dsimp only;omega)).trans ?_;rw[←hW];clear hW;go_simp))
  have HB:=Lib.hid (Below.refl (W.heap.size) W)
  have HZ:=fun(W1:World) (hb:W.heap.size≤W1.heap.size)=>Lib.hid (show w.heap.size<W1.heap.size∧w.heap.size+1<W1.heap.size∧w.heap.size+1+1<W1.heap.size∧w.heap.size+1+1+1<W1.heap.size from by have:=HWs.out;refine⟨?_, ?_, ?_, ?_⟩<;>omega)
  obtain⟨qx0,qx1,qx2,qx3,qx4,qx5,qx6,qx7⟩:=(HC _ HB.out).out
  obtain⟨rx0,rx1,rx2,rx3⟩:=(HZ _ HB.out.size).out
  have HFZ:=fun(W1:World) (hb:Below W.heap.size W W1)=>Lib.hid (show(∀j,W1.frozen? ⟨w.heap.size+1+1,j,none⟩=false)∧(∀j,W1.frozen? ⟨w.heap.size+1+1+1,j,none⟩=false) from
   ⟨fun j=>(hb.frozen (p:=⟨w.heap.size+1+1,j,none⟩) (by show w.heap.size+1+1<W.heap.size;have:=HWs.out;omega)).trans (by rw[←hW];clear hW;go_simp),fun j=>(hb.frozen (p:=⟨w.heap.size+1+1+1,j,none⟩) (by show w.heap.size+1+1+1<W.heap.size;have:=HWs.out;omega)).trans (by rw[←hW];clear hW;go_simp)⟩)
  clear hW
  refine((HED _ HW.out).out).mono ?_
  rintro e w1 ⟨rfl,hb2⟩
  have HB:=bnx HB HBW hb2
  clear qx0 qx1 qx2 qx3 qx4 qx5 qx6 qx7 rx0 rx1 rx2 rx3
  obtain⟨qx0,qx1,qx2,qx3,qx4,qx5,qx6,qx7⟩:=(HC _ HB.out).out
  clear hb2
  obtain⟨rx0,rx1,rx2,rx3⟩:=(HZ _ HB.out.size).out
  go_wp2_with fail
  have HX1:=Lib.hid (HW.out.trans (HB.out.mono HW.out.size))
  first|refine wp_name (fun W2 hW2=> ?_)|refine calls_name (fun W2 hW2=> ?_)
  have HW2:Hid (Below w1.heap.size w1 W2):=Lib.hid (by rw[←hW2];repeat (first|exact Below.refl _ _|refine below_alloc ?_))
  have HWs2:Hid (W2.heap.size=w1.heap.size+1):=Lib.hid (by rw[←hW2];simp)
  have HBW2:Hid (W2.heap.size≤W2.heap.size):=Lib.hid (by have:=HWs2.out;omega)
  have HC2:=fun(W1:World) (hb:Below (W2.heap.size) W2 W1)=>Lib.hid (show W1.cell? ⟨w.heap.size,0,none⟩=some (.slice va vn vc)∧W1.cell? ⟨w.heap.size,1,none⟩=some (.slice ea en ec)∧W1.cell? ⟨w.heap.size+1,0,none⟩=some (.int .i64 hx)∧W1.cell? ⟨w.heap.size+1,1,none⟩=some (.bool false)∧W1.cell? ⟨w.heap.size+1+1,0,none⟩=some (.int .i64 0)∧W1.cell? ⟨w.heap.size+1+1,1,none⟩=some (.int .i64 0)∧W1.cell? ⟨w.heap.size+1+1+1,0,none⟩=some (.int .i64 0)∧W1.cell? ⟨w.heap.size+1+1+1,1,none⟩=some (.int .i64 0)∧W1.cell? ⟨w1.heap.size,0,none⟩=some (.int .i64 ei)∧W1.cell? ⟨w1.heap.size,1,none⟩=some (.int .i64 e1)∧W1.cell? ⟨w1.heap.size,2,none⟩=some (.int .i64 e2) from by have ho:=(HC W1 (in_of HB.out HW2.out hb (Nat.le_trans HBW.out HB.out.size) (by have h1:=HBW.out;have h2:=HB.out.size;have h3:=HW2.out.size;have h4:=HWs2.out;omega))).out;have hs:=HWs2.out;have z1:=HWs.out;have z2:=HB.out.size;refine⟨ho.1,ho.2.1,ho.2.2.1,ho.2.2.2.1,ho.2.2.2.2.1,ho.2.2.2.2.2.1,ho.2.2.2.2.2.2.1,ho.2.2.2.2.2.2.2, ?_, ?_, ?_⟩<;>(refine(hb.cell (by dsimp only;omega)).trans ?_;rw[←hW2];clear hW2;go_simp))
  have HB2:=Lib.hid (Below.refl (W2.heap.size) W2)
  clear hW2
  have HZ2:=fun(W1:World) (hb:W2.heap.size≤W1.heap.size)=>Lib.hid (show w.heap.size<W1.heap.size∧w.heap.size+1<W1.heap.size∧w.heap.size+1+1<W1.heap.size∧w.heap.size+1+1+1<W1.heap.size∧w1.heap.size<W1.heap.size from by obtain⟨o0,o1,o2,o3⟩:=(HZ _ HB.out.size).out;have h3:=HW2.out.size;have:=HWs2.out;refine⟨?_, ?_, ?_, ?_, ?_⟩<;>omega)
  clear qx0 qx1 qx2 qx3 qx4 qx5 qx6 qx7 rx0 rx1 rx2 rx3
  obtain⟨qx0,qx1,qx2,qx3,qx4,qx5,qx6,qx7,qx8,qx9,qx10⟩:=(HC2 _ HB2.out).out
  obtain⟨rx0,rx1,rx2,rx3,rx4⟩:=(HZ2 _ HB2.out.size).out
  have HX2:=Lib.hid (below_step HW2.out HX1.out)
  refine((HVA _ HX2.out).out).mono ?_
  rintro e w3 ⟨rfl,hb4⟩
  have HB2:=bnx HB2 HBW2 hb4
  clear qx0 qx1 qx2 qx3 qx4 qx5 qx6 qx7 qx8 qx9 qx10 rx0 rx1 rx2 rx3 rx4
  obtain⟨qx0,qx1,qx2,qx3,qx4,qx5,qx6,qx7,qx8,qx9,qx10⟩:=(HC2 _ HB2.out).out
  clear hb4
  obtain⟨rx0,rx1,rx2,rx3,rx4⟩:=(HZ2 _ HB2.out.size).out
  go_wp2_with fail
  have HX3:=Lib.hid (HX2.out.trans (HB2.out.mono HX2.out.size))
  first|refine wp_name (fun W3 hW3=> ?_)|refine calls_name (fun W3 hW3=> ?_)
  have HW3:Hid (Below w3.heap.size w3 W3):=Lib.hid (by rw[←hW3];repeat (first|exact Below.refl _ _|refine below_alloc ?_))
  have HWs3:Hid (W3.heap.size=w3.heap.size+1):=Lib.hid (by rw[←hW3];simp)
  have HBW3:Hid (W3.heap.size≤W3.heap.size):=Lib.hid (by have:=HWs3.out;omega)
  have HC3:=fun(W1:World) (hb:Below (W3.heap.size) W3 W1)=>Lib.hid (show W1.cell? ⟨w.heap.size,0,none⟩=some (.slice va vn vc)∧W1.cell? ⟨w.heap.size,1,none⟩=some (.slice ea en ec)∧W1.cell? ⟨w.heap.size+1,0,none⟩=some (.int .i64 hx)∧W1.cell? ⟨w.heap.size+1,1,none⟩=some (.bool false)∧W1.cell? ⟨w.heap.size+1+1,0,none⟩=some (.int .i64 0)∧W1.cell? ⟨w.heap.size+1+1,1,none⟩=some (.int .i64 0)∧W1.cell? ⟨w.heap.size+1+1+1,0,none⟩=some (.int .i64 0)∧W1.cell? ⟨w.heap.size+1+1+1,1,none⟩=some (.int .i64 0)∧W1.cell? ⟨w1.heap.size,0,none⟩=some (.int .i64 ei)∧W1.cell? ⟨w1.heap.size,1,none⟩=some (.int .i64 e1)∧W1.cell? ⟨w1.heap.size,2,none⟩=some (.int .i64 e2)∧W1.cell? ⟨w3.heap.size,0,none⟩=some (.int .i64 ai)∧W1.cell? ⟨w3.heap.size,1,none⟩=some (.int .i64 ax)∧W1.cell? ⟨w3.heap.size,2,none⟩=some (.int .i64 ay) from by have ho:=(HC2 W1 (in_of HB2.out HW3.out hb (Nat.le_trans HBW2.out HB2.out.size) (by have h1:=HBW2.out;have h2:=HB2.out.size;have h3:=HW3.out.size;have h4:=HWs3.out;omega))).out;have hs:=HWs3.out;have z1:=HWs2.out;have z2:=HB2.out.size;refine⟨ho.1,ho.2.1,ho.2.2.1,ho.2.2.2.1,ho.2.2.2.2.1,ho.2.2.2.2.2.1,ho.2.2.2.2.2.2.1,ho.2.2.2.2.2.2.2.1,ho.2.2.2.2.2.2.2.2.1,ho.2.2.2.2.2.2.2.2.2.1,ho.2.2.2.2.2.2.2.2.2.2, ?_, ?_, ?_⟩<;>(refine(hb.cell (by dsimp only;omega)).trans ?_;rw[←hW3];clear hW3;go_simp))
  have HB3:=Lib.hid (Below.refl (W3.heap.size) W3)
  have HZ3:=fun(W1:World) (hb:W3.heap.size≤W1.heap.size)=>Lib.hid (show w.heap.size<W1.heap.size∧w.heap.size+1<W1.heap.size∧w.heap.size+1+1<W1.heap.size∧w.heap.size+1+1+1<W1.heap.size∧w1.heap.size<W1.heap.size∧w3.heap.size<W1.heap.size from by obtain⟨o0,o1,o2,o3,o4⟩:=(HZ2 _ HB2.out.size).out;have h3:=HW3.out.size;have:=HWs3.out;refine⟨?_, ?_, ?_, ?_, ?_, ?_⟩<;>omega)
  clear qx0 qx1 qx2 qx3 qx4 qx5 qx6 qx7 qx8 qx9 qx10 rx0 rx1 rx2 rx3 rx4
  obtain⟨qx0,qx1,qx2,qx3,qx4,qx5,qx6,qx7,qx8,qx9,qx10,qx11,qx12,qx13⟩:=(HC3 _ HB3.out).out
  obtain⟨rx0,rx1,rx2,rx3,rx4,rx5⟩:=(HZ3 _ HB3.out.size).out
  have HFB:=fun(W1:World) (hb:Below W3.heap.size W3 W1)=>Lib.hid (show∀j,W1.frozen? ⟨w3.heap.size,j,none⟩=false from fun j=>(hb.frozen (p:=⟨w3.heap.size,j,none⟩) (by show w3.heap.size<W3.heap.size;have:=HWs3.out;omega)).trans (by rw[←hW3];clear hW3;go_simp))
  clear hW3
  have HX4:=Lib.hid (below_step HW3.out HX3.out)
  refine((HVB _ HX4.out).out).mono ?_
  rintro e w5 ⟨rfl,hb6⟩
  have HB3:=bnx HB3 HBW3 hb6
  clear qx0 qx1 qx2 qx3 qx4 qx5 qx6 qx7 qx8 qx9 qx10 qx11 qx12 qx13 rx0 rx1 rx2 rx3 rx4 rx5
  obtain⟨qx0,qx1,qx2,qx3,qx4,qx5,qx6,qx7,qx8,qx9,qx10,qx11,qx12,qx13⟩:=(HC3 _ HB3.out).out
  clear hb6
  obtain⟨rx0,rx1,rx2,rx3,rx4,rx5⟩:=(HZ3 _ HB3.out.size).out
  have HX5:=Lib.hid (HX4.out.trans (HB3.out.mono HX4.out.size))
  have hy1:=HB.out
  have hy2:=below_next hy1 hy1.size HW2.out
  have hy3:=below_next hy2 hy2.size HB2.out
  have hy4:=below_next hy3 hy3.size HW3.out
  have HY5:=Lib.hid (below_next hy4 hy4.size HB3.out)
  have HSZ3:=Lib.hid (show W.heap.size≤w3.heap.size from hy3.size)
  have HSZ5:=Lib.hid (show w3.heap.size<w5.heap.size from by have:=HB3.out.size;have:=HWs3.out;omega)
  clear hy1 hy2 hy3 hy4
  have hfb:=(HFB _ HB3.out).out
  have hz0:=HWs.out
  have hz1:=HSZ3.out
  have hz2:=HSZ5.out
  go_wp2_with fail
  refine wp_name (fun c hc=> ?_)
  have hBc:Below W.heap.size W c:=by
   rw[←hc]
   repeat (first|exact HY5.out|refine Below.setCell ?_ (by first|(simp;omega)|omega) _|refine Below.alloc ?_ (by first|exact HY5.out.size|(simp;omega)) _)
  have hcells:c.cell? ⟨w3.heap.size,1,none⟩=some (.int .i64 ax)∧c.cell? ⟨w3.heap.size,1+1,none⟩=some (.int .i64 ay)∧c.cell? ⟨w5.heap.size,1,none⟩=some (.int .i64 bx)∧c.cell? ⟨w5.heap.size,1+1,none⟩=some (.int .i64 by_):=by
   rw[←hc]
   clear hc hBc
   refine⟨?_, ?_, ?_, ?_⟩<;>(go_simp)
  have hcs:w5.heap.size<c.heap.size:=by rw[←hc];simp
  have HBc:=Lib.hid hBc
  have HY:=fun(w':World) (t:Touch [w.heap.size+1+1,w.heap.size+1+1+1] c w')=>Lib.hid (show w'.cell? ⟨w3.heap.size,1,none⟩=some (.int .i64 ax)∧w'.cell? ⟨w3.heap.size,1+1,none⟩=some (.int .i64 ay)∧w'.cell? ⟨w5.heap.size,1,none⟩=some (.int .i64 bx)∧w'.cell? ⟨w5.heap.size,1+1,none⟩=some (.int .i64 by_) from
   ⟨(t.cell (p:=⟨w3.heap.size,_,none⟩) (by show w3.heap.size<_;omega) (by simp;omega)).trans hcells.1,(t.cell (p:=⟨w3.heap.size,_,none⟩) (by show w3.heap.size<_;omega) (by simp;omega)).trans hcells.2.1,(t.cell (p:=⟨w5.heap.size,_,none⟩) hcs (by simp;omega)).trans hcells.2.2.1,(t.cell (p:=⟨w5.heap.size,_,none⟩) hcs (by simp;omega)).trans hcells.2.2.2⟩)
  have HS0:=Lib.hid (Touch.refl [w.heap.size+1+1,w.heap.size+1+1+1] c).drew
  have hr:=(HC _ HBc.out).out
  have r0:=hr.2.2.2.2.1
  have r1:=hr.2.2.2.2.2.1
  have r2:=hr.2.2.2.2.2.2.1
  have r3:=hr.2.2.2.2.2.2.2
  have f0:=(HFZ _ HBc.out).out.1
  have f1:=(HFZ _ HBc.out).out.2
  clear hc hBc hcells hcs hr hfb hz0 hz1 hz2
  clear qx0 qx1 qx2 qx3 qx4 qx5 qx6 qx7 qx8 qx9 qx10 qx11 qx12 qx13 rx0 rx1 rx2 rx3 rx4 rx5
  refine wp_region_noPanic ?_
  refine wp_region_par3 7 7 (by kernel_rfl) (by kernel_rfl) (by simp) (by omega) (by kernel_rfl) (by kernel_rfl) (fun w':World=>Touch [w.heap.size+1+1,w.heap.size+1+1+1] c w') ?_
  refine par3_move (v:= ?_) 0 (by simp only[zga,zgb,zgc];rfl) (by kernel_rfl) (by rfl) ?_ (fun _ _ _ h=>h) ?_
  rotate_left
  ·(intro w9;go_simp;try with_reducible rfl)
  simp only[Act.put,zpa,zpb,zpc]
  refine par3_read (v:= ?_) 1 (by simp only[zga,zgb,zgc];rfl) (by kernel_rfl) (by rfl) HS0.out ?_ (fun _ _ _ h=>h) ?_
  rotate_left
  ·(intro w9 hSw;obtain⟨y0,y1,y2,y3⟩:=(HY w9 hSw).out;clear hSw;go_simp;try with_reducible rfl)
  simp only[Act.put,zpa,zpb,zpc]
  refine par3_move (v:= ?_) 2 (by simp only[zga,zgb,zgc];rfl) (by kernel_rfl) (by rfl) ?_ (fun _ _ _ h=>h) ?_
  rotate_left
  ·(intro w9;go_simp;try with_reducible rfl)
  simp only[Act.put,zpa,zpb,zpc]
  refine par3_read (v:= ?_) 3 (by simp only[zga,zgb,zgc];rfl) (by kernel_rfl) (by rfl) HS0.out ?_ (fun _ _ _ h=>h) ?_
  rotate_left
  ·(intro w9 hSw;obtain⟨y0,y1,y2,y3⟩:=(HY w9 hSw).out;clear hSw;go_simp;try with_reducible rfl)
  simp only[Act.put,zpa,zpb,zpc]
  refine par3_move (v:= ?_) 4 (by simp only[zga,zgb,zgc];rfl) (by kernel_rfl) (by rfl) ?_ (fun _ _ _ h=>h) ?_
  rotate_left
  ·(intro w9;go_simp;try with_reducible rfl)
  simp only[Act.put,zpa,zpb,zpc]
  refine par3_one 5 (by simp only[zga,zgb,zgc];rfl) (by kernel_rfl) (by rfl) ?_
  refine owp_skip (w1:= ?_) ?_ ?_
  rotate_left
  ·(go_simp;first|rfl|(constructor<;>rfl))
  refine⟨fun s _=>(s.setCell (.inl (by simp)) _).setCell (.inl (by simp)) _, ?_⟩
  simp only[Act.put,zpa,zpb,zpc]
  refine par3_one 6 (by simp only[zga,zgb,zgc];rfl) (by kernel_rfl) (by rfl) ?_
  refine owp_skip (w1:= ?_) ?_ ?_
  rotate_left
  ·(go_simp;first|rfl|(constructor<;>rfl))
  refine⟨fun s _=>(s.setCell (.inl (by simp)) _).setCell (.inl (by simp)) _, ?_⟩
  simp only[Act.put,zpa,zpb,zpc]
  refine par3_tail _ (by simp only[List.drop_succ_cons,List.drop_zero];rfl) (by kernel_rfl) ?_
  go_wp2_with fail
  refine NoPanic.normal ?_
  go_wp2_with fail
  refine bodyPost_ret (v:= .tuple #[.agg #[.int .i64 ax, .int .i64 ay], .agg #[.int .i64 bx, .int .i64 by_], .bool ok]) (by simp[results,Try.results58,go_sem, *]) rfl ⟨rfl, ?_⟩
  have h3:Below w.heap.size w c:=HW.out.trans (HBc.out.mono HW.out.size)
  exact((((h3.drew.setCell (by simp;omega) _).setCell (by simp;omega) _).setCell (by simp;omega) _).setCell (by simp;omega) _)
 ·go_enter Try.func58,Try.ntmps58
  go_wp2_with fail
  first|refine wp_name (fun W hW=> ?_)|refine calls_name (fun W hW=> ?_)
  have HW:Hid (Below w.heap.size w W):=Lib.hid (by rw[←hW];repeat (first|exact Below.refl _ _|refine below_alloc ?_))
  have HWs:Hid (W.heap.size=w.heap.size+1+1+1+1):=Lib.hid (by rw[←hW];simp)
  have HBW:Hid (W.heap.size≤W.heap.size):=Lib.hid (by have:=HWs.out;omega)
  have HC:=fun(W1:World) (hb:Below (W.heap.size) W W1)=>Lib.hid (show W1.cell? ⟨w.heap.size,0,none⟩=some (.slice va vn vc)∧W1.cell? ⟨w.heap.size,1,none⟩=some (.slice ea en ec)∧W1.cell? ⟨w.heap.size+1,0,none⟩=some (.int .i64 hx)∧W1.cell? ⟨w.heap.size+1,1,none⟩=some (.bool true)∧W1.cell? ⟨w.heap.size+1+1,0,none⟩=some (.int .i64 0)∧W1.cell? ⟨w.heap.size+1+1,1,none⟩=some (.int .i64 0)∧W1.cell? ⟨w.heap.size+1+1+1,0,none⟩=some (.int .i64 0)∧W1.cell? ⟨w.heap.size+1+1+1,1,none⟩=some (.int .i64 0) from by have hs:=HWs.out;refine⟨?_, ?_, ?_, ?_, ?_, ?_, ?_, ?_⟩<;>(refine(hb.cell (by dsimp only;omega)).trans ?_;rw[←hW];clear hW;go_simp))
  have HB:=Lib.hid (Below.refl (W.heap.size) W)
  have HZ:=fun(W1:World) (hb:W.heap.size≤W1.heap.size)=>Lib.hid (show w.heap.size<W1.heap.size∧w.heap.size+1<W1.heap.size∧w.heap.size+1+1<W1.heap.size∧w.heap.size+1+1+1<W1.heap.size from by have:=HWs.out;refine⟨?_, ?_, ?_, ?_⟩<;>omega)
  obtain⟨qx0,qx1,qx2,qx3,qx4,qx5,qx6,qx7⟩:=(HC _ HB.out).out
  obtain⟨rx0,rx1,rx2,rx3⟩:=(HZ _ HB.out.size).out
  have HFZ:=fun(W1:World) (hb:Below W.heap.size W W1)=>Lib.hid (show(∀j,W1.frozen? ⟨w.heap.size+1+1,j,none⟩=false)∧(∀j,W1.frozen? ⟨w.heap.size+1+1+1,j,none⟩=false) from
   ⟨fun j=>(hb.frozen (p:=⟨w.heap.size+1+1,j,none⟩) (by show w.heap.size+1+1<W.heap.size;have:=HWs.out;omega)).trans (by rw[←hW];clear hW;go_simp),fun j=>(hb.frozen (p:=⟨w.heap.size+1+1+1,j,none⟩) (by show w.heap.size+1+1+1<W.heap.size;have:=HWs.out;omega)).trans (by rw[←hW];clear hW;go_simp)⟩)
  clear hW
  refine((HED _ HW.out).out).mono ?_
  rintro e w1 ⟨rfl,hb8⟩
  have HB:=bnx HB HBW hb8
  clear qx0 qx1 qx2 qx3 qx4 qx5 qx6 qx7 rx0 rx1 rx2 rx3
  obtain⟨qx0,qx1,qx2,qx3,qx4,qx5,qx6,qx7⟩:=(HC _ HB.out).out
  clear hb8
  obtain⟨rx0,rx1,rx2,rx3⟩:=(HZ _ HB.out.size).out
  go_wp2_with fail
  have HX1:=Lib.hid (HW.out.trans (HB.out.mono HW.out.size))
  first|refine wp_name (fun W2 hW2=> ?_)|refine calls_name (fun W2 hW2=> ?_)
  have HW2:Hid (Below w1.heap.size w1 W2):=Lib.hid (by rw[←hW2];repeat (first|exact Below.refl _ _|refine below_alloc ?_))
  have HWs2:Hid (W2.heap.size=w1.heap.size+1):=Lib.hid (by rw[←hW2];simp)
  have HBW2:Hid (W2.heap.size≤W2.heap.size):=Lib.hid (by have:=HWs2.out;omega)
  have HC2:=fun(W1:World) (hb:Below (W2.heap.size) W2 W1)=>Lib.hid (show W1.cell? ⟨w.heap.size,0,none⟩=some (.slice va vn vc)∧W1.cell? ⟨w.heap.size,1,none⟩=some (.slice ea en ec)∧W1.cell? ⟨w.heap.size+1,0,none⟩=some (.int .i64 hx)∧W1.cell? ⟨w.heap.size+1,1,none⟩=some (.bool true)∧W1.cell? ⟨w.heap.size+1+1,0,none⟩=some (.int .i64 0)∧W1.cell? ⟨w.heap.size+1+1,1,none⟩=some (.int .i64 0)∧W1.cell? ⟨w.heap.size+1+1+1,0,none⟩=some (.int .i64 0)∧W1.cell? ⟨w.heap.size+1+1+1,1,none⟩=some (.int .i64 0)∧W1.cell? ⟨w1.heap.size,0,none⟩=some (.int .i64 ei)∧W1.cell? ⟨w1.heap.size,1,none⟩=some (.int .i64 e1)∧W1.cell? ⟨w1.heap.size,2,none⟩=some (.int .i64 e2) from by have ho:=(HC W1 (in_of HB.out HW2.out hb (Nat.le_trans HBW.out HB.out.size) (by have h1:=HBW.out;have h2:=HB.out.size;have h3:=HW2.out.size;have h4:=HWs2.out;omega))).out;have hs:=HWs2.out;have z1:=HWs.out;have z2:=HB.out.size;refine⟨ho.1,ho.2.1,ho.2.2.1,ho.2.2.2.1,ho.2.2.2.2.1,ho.2.2.2.2.2.1,ho.2.2.2.2.2.2.1,ho.2.2.2.2.2.2.2, ?_, ?_, ?_⟩<;>(refine(hb.cell (by dsimp only;omega)).trans ?_;rw[←hW2];clear hW2;go_simp))
  have HB2:=Lib.hid (Below.refl (W2.heap.size) W2)
  clear hW2
  have HZ2:=fun(W1:World) (hb:W2.heap.size≤W1.heap.size)=>Lib.hid (show w.heap.size<W1.heap.size∧w.heap.size+1<W1.heap.size∧w.heap.size+1+1<W1.heap.size∧w.heap.size+1+1+1<W1.heap.size∧w1.heap.size<W1.heap.size from by obtain⟨o0,o1,o2,o3⟩:=(HZ _ HB.out.size).out;have h3:=HW2.out.size;have:=HWs2.out;refine⟨?_, ?_, ?_, ?_, ?_⟩<;>omega)
  clear qx0 qx1 qx2 qx3 qx4 qx5 qx6 qx7 rx0 rx1 rx2 rx3
  obtain⟨qx0,qx1,qx2,qx3,qx4,qx5,qx6,qx7,qx8,qx9,qx10⟩:=(HC2 _ HB2.out).out
  obtain⟨rx0,rx1,rx2,rx3,rx4⟩:=(HZ2 _ HB2.out.size).out
  have HX2:=Lib.hid (below_step HW2.out HX1.out)
  refine((HVA _ HX2.out).out).mono ?_
  rintro e w3 ⟨rfl,hb10⟩
  have HB2:=bnx HB2 HBW2 hb10
  clear qx0 qx1 qx2 qx3 qx4 qx5 qx6 qx7 qx8 qx9 qx10 rx0 rx1 rx2 rx3 rx4
  obtain⟨qx0,qx1,qx2,qx3,qx4,qx5,qx6,qx7,qx8,qx9,qx10⟩:=(HC2 _ HB2.out).out
  clear hb10
  obtain⟨rx0,rx1,rx2,rx3,rx4⟩:=(HZ2 _ HB2.out.size).out
  go_wp2_with fail
  have HX3:=Lib.hid (HX2.out.trans (HB2.out.mono HX2.out.size))
  first|refine wp_name (fun W3 hW3=> ?_)|refine calls_name (fun W3 hW3=> ?_)
  have HW3:Hid (Below w3.heap.size w3 W3):=Lib.hid (by rw[←hW3];repeat (first|exact Below.refl _ _|refine below_alloc ?_))
  have HWs3:Hid (W3.heap.size=w3.heap.size+1):=Lib.hid (by rw[←hW3];simp)
  have HBW3:Hid (W3.heap.size≤W3.heap.size):=Lib.hid (by have:=HWs3.out;omega)
  have HC3:=fun(W1:World) (hb:Below (W3.heap.size) W3 W1)=>Lib.hid (show W1.cell? ⟨w.heap.size,0,none⟩=some (.slice va vn vc)∧W1.cell? ⟨w.heap.size,1,none⟩=some (.slice ea en ec)∧W1.cell? ⟨w.heap.size+1,0,none⟩=some (.int .i64 hx)∧W1.cell? ⟨w.heap.size+1,1,none⟩=some (.bool true)∧W1.cell? ⟨w.heap.size+1+1,0,none⟩=some (.int .i64 0)∧W1.cell? ⟨w.heap.size+1+1,1,none⟩=some (.int .i64 0)∧W1.cell? ⟨w.heap.size+1+1+1,0,none⟩=some (.int .i64 0)∧W1.cell? ⟨w.heap.size+1+1+1,1,none⟩=some (.int .i64 0)∧W1.cell? ⟨w1.heap.size,0,none⟩=some (.int .i64 ei)∧W1.cell? ⟨w1.heap.size,1,none⟩=some (.int .i64 e1)∧W1.cell? ⟨w1.heap.size,2,none⟩=some (.int .i64 e2)∧W1.cell? ⟨w3.heap.size,0,none⟩=some (.int .i64 ai)∧W1.cell? ⟨w3.heap.size,1,none⟩=some (.int .i64 ax)∧W1.cell? ⟨w3.heap.size,2,none⟩=some (.int .i64 ay) from by have ho:=(HC2 W1 (in_of HB2.out HW3.out hb (Nat.le_trans HBW2.out HB2.out.size) (by have h1:=HBW2.out;have h2:=HB2.out.size;have h3:=HW3.out.size;have h4:=HWs3.out;omega))).out;have hs:=HWs3.out;have z1:=HWs2.out;have z2:=HB2.out.size;refine⟨ho.1,ho.2.1,ho.2.2.1,ho.2.2.2.1,ho.2.2.2.2.1,ho.2.2.2.2.2.1,ho.2.2.2.2.2.2.1,ho.2.2.2.2.2.2.2.1,ho.2.2.2.2.2.2.2.2.1,ho.2.2.2.2.2.2.2.2.2.1,ho.2.2.2.2.2.2.2.2.2.2, ?_, ?_, ?_⟩<;>(refine(hb.cell (by dsimp only;omega)).trans ?_;rw[←hW3];clear hW3;go_simp))
  have HB3:=Lib.hid (Below.refl (W3.heap.size) W3)
  have HZ3:=fun(W1:World) (hb:W3.heap.size≤W1.heap.size)=>Lib.hid (show w.heap.size<W1.heap.size∧w.heap.size+1<W1.heap.size∧w.heap.size+1+1<W1.heap.size∧w.heap.size+1+1+1<W1.heap.size∧w1.heap.size<W1.heap.size∧w3.heap.size<W1.heap.size from by obtain⟨o0,o1,o2,o3,o4⟩:=(HZ2 _ HB2.out.size).out;have h3:=HW3.out.size;have:=HWs3.out;refine⟨?_, ?_, ?_, ?_, ?_, ?_⟩<;>omega)
  clear qx0 qx1 qx2 qx3 qx4 qx5 qx6 qx7 qx8 qx9 qx10 rx0 rx1 rx2 rx3 rx4
  obtain⟨qx0,qx1,qx2,qx3,qx4,qx5,qx6,qx7,qx8,qx9,qx10,qx11,qx12,qx13⟩:=(HC3 _ HB3.out).out
  obtain⟨rx0,rx1,rx2,rx3,rx4,rx5⟩:=(HZ3 _ HB3.out.size).out
  have HFB:=fun(W1:World) (hb:Below W3.heap.size W3 W1)=>Lib.hid (show∀j,W1.frozen? ⟨w3.heap.size,j,none⟩=false from fun j=>(hb.frozen (p:=⟨w3.heap.size,j,none⟩) (by show w3.heap.size<W3.heap.size;have:=HWs3.out;omega)).trans (by rw[←hW3];clear hW3;go_simp))
  clear hW3
  have HX4:=Lib.hid (below_step HW3.out HX3.out)
  refine((HVB _ HX4.out).out).mono ?_
  rintro e w5 ⟨rfl,hb12⟩
  have HB3:=bnx HB3 HBW3 hb12
  clear qx0 qx1 qx2 qx3 qx4 qx5 qx6 qx7 qx8 qx9 qx10 qx11 qx12 qx13 rx0 rx1 rx2 rx3 rx4 rx5
  obtain⟨qx0,qx1,qx2,qx3,qx4,qx5,qx6,qx7,qx8,qx9,qx10,qx11,qx12,qx13⟩:=(HC3 _ HB3.out).out
  clear hb12
  obtain⟨rx0,rx1,rx2,rx3,rx4,rx5⟩:=(HZ3 _ HB3.out.size).out
  have HX5:=Lib.hid (HX4.out.trans (HB3.out.mono HX4.out.size))
  have hy1:=HB.out
  have hy2:=below_next hy1 hy1.size HW2.out
  have hy3:=below_next hy2 hy2.size HB2.out
  have hy4:=below_next hy3 hy3.size HW3.out
  have HY5:=Lib.hid (below_next hy4 hy4.size HB3.out)
  have HSZ3:=Lib.hid (show W.heap.size≤w3.heap.size from hy3.size)
  have HSZ5:=Lib.hid (show w3.heap.size<w5.heap.size from by have:=HB3.out.size;have:=HWs3.out;omega)
  clear hy1 hy2 hy3 hy4
  have hfb:=(HFB _ HB3.out).out
  have hz0:=HWs.out
  have hz1:=HSZ3.out
  have hz2:=HSZ5.out
  go_wp2_with fail
  refine wp_name (fun c hc=> ?_)
  have hBc:Below W.heap.size W c:=by
   rw[←hc]
   repeat (first|exact HY5.out|refine Below.setCell ?_ (by first|(simp;omega)|omega) _|refine Below.alloc ?_ (by first|exact HY5.out.size|(simp;omega)) _)
  have hcells:c.cell? ⟨w3.heap.size,1,none⟩=some (.int .i64 bx)∧c.cell? ⟨w3.heap.size,1+1,none⟩=some (.int .i64 by_)∧c.cell? ⟨w5.heap.size,1,none⟩=some (.int .i64 ax)∧c.cell? ⟨w5.heap.size,1+1,none⟩=some (.int .i64 ay):=by
   rw[←hc]
   clear hc hBc
   refine⟨?_, ?_, ?_, ?_⟩<;>(go_simp)
  have hcs:w5.heap.size<c.heap.size:=by rw[←hc];simp
  have HBc:=Lib.hid hBc
  have HY:=fun(w':World) (t:Touch [w.heap.size+1+1,w.heap.size+1+1+1] c w')=>Lib.hid (show w'.cell? ⟨w3.heap.size,1,none⟩=some (.int .i64 bx)∧w'.cell? ⟨w3.heap.size,1+1,none⟩=some (.int .i64 by_)∧w'.cell? ⟨w5.heap.size,1,none⟩=some (.int .i64 ax)∧w'.cell? ⟨w5.heap.size,1+1,none⟩=some (.int .i64 ay) from
   ⟨(t.cell (p:=⟨w3.heap.size,_,none⟩) (by show w3.heap.size<_;omega) (by simp;omega)).trans hcells.1,(t.cell (p:=⟨w3.heap.size,_,none⟩) (by show w3.heap.size<_;omega) (by simp;omega)).trans hcells.2.1,(t.cell (p:=⟨w5.heap.size,_,none⟩) hcs (by simp;omega)).trans hcells.2.2.1,(t.cell (p:=⟨w5.heap.size,_,none⟩) hcs (by simp;omega)).trans hcells.2.2.2⟩)
  have HS0:=Lib.hid (Touch.refl [w.heap.size+1+1,w.heap.size+1+1+1] c).drew
  have hr:=(HC _ HBc.out).out
  have r0:=hr.2.2.2.2.1
  have r1:=hr.2.2.2.2.2.1
  have r2:=hr.2.2.2.2.2.2.1
  have r3:=hr.2.2.2.2.2.2.2
  have f0:=(HFZ _ HBc.out).out.1
  have f1:=(HFZ _ HBc.out).out.2
  clear hc hBc hcells hcs hr hfb hz0 hz1 hz2
  clear qx0 qx1 qx2 qx3 qx4 qx5 qx6 qx7 qx8 qx9 qx10 qx11 qx12 qx13 rx0 rx1 rx2 rx3 rx4 rx5
  refine wp_region_noPanic ?_
  refine wp_region_par3 7 7 (by kernel_rfl) (by kernel_rfl) (by simp) (by omega) (by kernel_rfl) (by kernel_rfl) (fun w':World=>Touch [w.heap.size+1+1,w.heap.size+1+1+1] c w') ?_
  refine par3_move (v:= ?_) 0 (by simp only[zga,zgb,zgc];rfl) (by kernel_rfl) (by rfl) ?_ (fun _ _ _ h=>h) ?_
  rotate_left
  ·(intro w9;go_simp;try with_reducible rfl)
  simp only[Act.put,zpa,zpb,zpc]
  refine par3_read (v:= ?_) 1 (by simp only[zga,zgb,zgc];rfl) (by kernel_rfl) (by rfl) HS0.out ?_ (fun _ _ _ h=>h) ?_
  rotate_left
  ·(intro w9 hSw;obtain⟨y0,y1,y2,y3⟩:=(HY w9 hSw).out;clear hSw;go_simp;try with_reducible rfl)
  simp only[Act.put,zpa,zpb,zpc]
  refine par3_move (v:= ?_) 2 (by simp only[zga,zgb,zgc];rfl) (by kernel_rfl) (by rfl) ?_ (fun _ _ _ h=>h) ?_
  rotate_left
  ·(intro w9;go_simp;try with_reducible rfl)
  simp only[Act.put,zpa,zpb,zpc]
  refine par3_read (v:= ?_) 3 (by simp only[zga,zgb,zgc];rfl) (by kernel_rfl) (by rfl) HS0.out ?_ (fun _ _ _ h=>h) ?_
  rotate_left
  ·(intro w9 hSw;obtain⟨y0,y1,y2,y3⟩:=(HY w9 hSw).out;clear hSw;go_simp;try with_reducible rfl)
  simp only[Act.put,zpa,zpb,zpc]
  refine par3_move (v:= ?_) 4 (by simp only[zga,zgb,zgc];rfl) (by kernel_rfl) (by rfl) ?_ (fun _ _ _ h=>h) ?_
  rotate_left
  ·(intro w9;go_simp;try with_reducible rfl)
  simp only[Act.put,zpa,zpb,zpc]
  refine par3_one 5 (by simp only[zga,zgb,zgc];rfl) (by kernel_rfl) (by rfl) ?_
  refine owp_skip (w1:= ?_) ?_ ?_
  rotate_left
  ·(go_simp;first|rfl|(constructor<;>rfl))
  refine⟨fun s _=>(s.setCell (.inl (by simp)) _).setCell (.inl (by simp)) _, ?_⟩
  simp only[Act.put,zpa,zpb,zpc]
  refine par3_one 6 (by simp only[zga,zgb,zgc];rfl) (by kernel_rfl) (by rfl) ?_
  refine owp_skip (w1:= ?_) ?_ ?_
  rotate_left
  ·(go_simp;first|rfl|(constructor<;>rfl))
  refine⟨fun s _=>(s.setCell (.inl (by simp)) _).setCell (.inl (by simp)) _, ?_⟩
  simp only[Act.put,zpa,zpb,zpc]
  refine par3_tail _ (by simp only[List.drop_succ_cons,List.drop_zero];rfl) (by kernel_rfl) ?_
  go_wp2_with fail
  refine NoPanic.normal ?_
  go_wp2_with fail
  refine bodyPost_ret (v:= .tuple #[.agg #[.int .i64 bx, .int .i64 by_], .agg #[.int .i64 ax, .int .i64 ay], .bool ok]) (by simp[results,Try.results58,go_sem, *]) rfl ⟨rfl, ?_⟩
  have h3:Below w.heap.size w c:=HW.out.trans (HBc.out.mono HW.out.size)
  exact((((h3.drew.setCell (by simp;omega) _).setCell (by simp;omega) _).setCell (by simp;omega) _).setCell (by simp;omega) _)
end Go.Proofs.Ythopjhifepijiaa
namespace Go.Proofs.Ythopjhifepijiaa
open Go.RowKit Go.Joins
open Go.Maps (Keyed)
def lnC (x:Pt × Pt):List Value:=[.int .i64 x.1.x, .int .i64 x.1.y, .int .i64 x.2.x, .int .i64 x.2.y]
def LnIn (w:World) (B:Nat) (a:Option Addr) (n:Nat) (l:List (Pt × Pt)):Prop:=n=l.length∧(n=0∨ ∃b off,a=some ⟨b,off,none⟩∧b<B∧ ∀(i:Nat) (x:Pt × Pt),l[i]? =some x→
 w.cell? ⟨b,off+i*4,none⟩=some (.int .i64 x.1.x)∧w.cell? ⟨b,off+i*4+1,none⟩=some (.int .i64 x.1.y)∧w.cell? ⟨b,off+i*4+1+1,none⟩=some (.int .i64 x.2.x)∧w.cell? ⟨b,off+i*4+1+1+1,none⟩=some (.int .i64 x.2.y))
theorem LnIn.below {w w':World} {B:Nat} {a:Option Addr} {n:Nat} {l:List (Pt × Pt)} (h:LnIn w B a n l) (k:Below B w w'):LnIn w' B a n l:=
 ⟨h.1,h.2.imp id (fun⟨b,off,e,hb,hs⟩=>⟨b,off,e,hb,fun i x hx=>⟨(k.cell (p:=⟨b,_,none⟩) hb).trans (hs i x hx).1,(k.cell (p:=⟨b,_,none⟩) hb).trans (hs i x hx).2.1,(k.cell (p:=⟨b,_,none⟩) hb).trans (hs i x hx).2.2.1,(k.cell (p:=⟨b,_,none⟩) hb).trans (hs i x hx).2.2.2⟩⟩)⟩
theorem LnIn.touch {w w':World} {B:Nat} {F:List Nat} {a:Option Addr} {n:Nat} {l:List (Pt × Pt)} (h:LnIn w B a n l) (k:Touch F w w') (hB:B≤w.heap.size) (hF: ∀b∈F,B≤b):LnIn w' B a n l:=h.below (k.below hB hF)
theorem LnIn.mono {w:World} {B B':Nat} {a:Option Addr} {n:Nat} {l:List (Pt × Pt)} (h:LnIn w B a n l) (k:B≤B'):LnIn w B' a n l:=
 ⟨h.1,h.2.imp id (fun⟨b,off,e,hb,hs⟩=>⟨b,off,e,Nat.lt_of_lt_of_le hb k,hs⟩)⟩
theorem LnIn.at_ {w:World} {B:Nat} {a:Option Addr} {n:Nat} {l:List (Pt × Pt)} (h:LnIn w B a n l) {k:Nat} (hk:k<n): ∃b off x,a=some ⟨b,off,none⟩∧b<B∧l[k]? =some x∧
  w.cell? ⟨b,off+k*4,none⟩=some (.int .i64 x.1.x)∧w.cell? ⟨b,off+k*4+1,none⟩=some (.int .i64 x.1.y)∧w.cell? ⟨b,off+k*4+1+1,none⟩=some (.int .i64 x.2.x)∧w.cell? ⟨b,off+k*4+1+1+1,none⟩=some (.int .i64 x.2.y):=by
 obtain⟨h1,h2|⟨b,off,e,hb,hs⟩⟩:=h
 ·omega
 ·have hx:=List.getElem?_eq_getElem (l:=l) (i:=k) (by omega)
  exact⟨b,off,_,e,hb,hx,hs k _ hx⟩
theorem lnIn_of_own {w:World} {base n c:Nat} {t:TypeId} {a:Option Addr} {l:List (Pt × Pt)} (h:w.ownsRow base t 4 (.slice a n c) n (l.flatMap lnC)) (hn:n=l.length):LnIn w w.heap.size a n l:=by
 refine⟨hn, ?_⟩
 rcases Nat.eq_zero_or_pos n with h0|h0
 ·exact .inl h0
 ·obtain⟨g,cap,e⟩:=ownsRow_form h h0
  injection e with e1 e2 e3
  subst e1
  refine .inr ⟨g,0,rfl,(h.lt g rfl).2,fun i v hv=> ?_⟩
  have hc:=fun j u (hu:(lnC v)[j]? =some u)=>(addr_add0 g (i*4+j))▸h.cells (g:=g) rfl (j:=i*4+j) (u:=u) (flatMap_get (n:=4) (fun _=>rfl) l i j v u hv hu)
  simp only[Nat.zero_add]
  exact⟨hc 0 _ rfl,hc 1 _ rfl,hc 2 _ rfl,hc 3 _ rfl⟩
theorem Try.infoPp:(Try.prog.info? 156).map (fun i=>(i.zero,i.size,i.bytes))=some (some (.agg #[.int .i64 0, .int .i64 0, .int .i64 0, .int .i64 0]),4,32):=by kernel_rfl
def knownB (p:PL) (R:List Hf):Bool:=R.all fun h=>hasE p.es h.edge
def PtsPost (p:PL) (w:World) (R:List Hf) (e:Ending) (w':World):Prop:=(∃a c,rightB p=true∧knownB p R=true∧e= .returned (.tuple #[.slice a R.length c, .bool true])∧w'.ownsRow w.heap.size 156 4 (.slice a R.length c) R.length ((R.map (endsP p)).flatMap lnC)∧Below w.heap.size w w')∨
 ((rightB p=false∨knownB p R=false)∧e= .returned (.tuple #[.slice none 0 0, .bool false])∧Below w.heap.size w w')
structure PtsS (W wr:World) (p:PL) (R:List Hf) (k:Nat) (v:Value):Prop where
 own:wr.ownsRow W.heap.size 156 4 v k (((R.take k).map (endsP p)).flatMap lnC)
 kn: ∀x∈R.take k,hasE p.es x.edge=true
 below:Below W.heap.size W wr
set_option maxRecDepth 100000 in
set_option maxHeartbeats 4000000 in
theorem points_any {w:World} {B vn vc en ec n c:Nat} {va ea a:Option Addr} {p:PL} {R:List Hf} (hv:VsIn w B va vn p.vs) (he:EsIn w B ea en p.es) (hr:HsIn w B a n R) (hB:B≤w.heap.size) (hn:vn≤100000) (hm:en≤100000) (hec:en≤ec) (hfit:FitPL p) (hl:n≤100000):
  Calls Try.prog 43 #[.agg #[.slice va vn vc, .slice ea en ec], .slice a n c] w (PtsPost p w R):=by
 have HRT:=fun(W:World) (hb:Below w.heap.size w W)=>Lib.hid (right_any (w:=W) (vc:=vc) (hv.below (hb.mono hB)) (he.below (hb.mono hB)) (Nat.le_trans hB hb.size) hn hm hec hfit)
 have HEN:=fun(W:World) (hb:Below w.heap.size w W) (h:Hf)=>Lib.hid (rends_any (w:=W) (vc:=vc) (ec:=ec) (hv.below (hb.mono hB)) (he.below (hb.mono hB)) (Nat.le_trans hB hb.size) hn hm h)
 have HRS:=fun(W:World) (hb:Below w.heap.size w W)=>Lib.hid (hr.below (hb.mono hB))
 have HRL:=Lib.hid hr.1
 obtain⟨i0,hi,hz0,hz1,hz2⟩:=info_parts Try.infoPp
 clear hv he hr hfit
 cases hrb:rightB p
 ·rw[hrb] at HRT
  have HRB:=Lib.hid hrb
  clear hrb
  go_enter Try.func43,Try.ntmps43
  go_wp2_with fail
  first|refine wp_name (fun W hW=> ?_)|refine calls_name (fun W hW=> ?_)
  have HW:Hid (Below w.heap.size w W):=Lib.hid (by rw[←hW];repeat (first|exact Below.refl _ _|refine below_alloc ?_))
  have HWs:Hid (W.heap.size=w.heap.size+1):=Lib.hid (by rw[←hW];simp)
  have HBW:Hid (W.heap.size≤W.heap.size):=Lib.hid (by have:=HWs.out;omega)
  have HC:=fun(W1:World) (hb:Below (W.heap.size) W W1)=>Lib.hid (show W1.cell? ⟨w.heap.size,0,none⟩=some (.slice va vn vc)∧W1.cell? ⟨w.heap.size,1,none⟩=some (.slice ea en ec) from by have hs:=HWs.out;refine⟨?_, ?_⟩<;>(refine(hb.cell (by dsimp only;omega)).trans ?_;rw[←hW];clear hW;go_simp))
  have HB:=Lib.hid (Below.refl (W.heap.size) W)
  clear hW
  have HZ:=fun(W1:World) (hb:W.heap.size≤W1.heap.size)=>Lib.hid (show w.heap.size<W1.heap.size from by have:=HWs.out;omega)
  obtain⟨qx0,qx1⟩:=(HC _ HB.out).out
  have rx0:=(HZ _ HB.out.size).out
  refine((HRT _ HW.out).out).mono ?_
  rintro e w2 ⟨rfl,hb2⟩
  have HB:=bnx HB HBW hb2
  clear qx0 qx1 rx0
  obtain⟨qx0,qx1⟩:=(HC _ HB.out).out
  clear hb2
  have rx0:=(HZ _ HB.out.size).out
  go_wp2_with fail
  go_ret2
  exact .inr ⟨.inl HRB.out,rfl,HW.out.trans (HB.out.mono HW.out.size)⟩
 ·rw[hrb] at HRT
  have HRB:=Lib.hid hrb
  clear hrb
  go_enter Try.func43,Try.ntmps43
  go_wp2_with fail
  first|refine wp_name (fun W hW=> ?_)|refine calls_name (fun W hW=> ?_)
  have HW:Hid (Below w.heap.size w W):=Lib.hid (by rw[←hW];repeat (first|exact Below.refl _ _|refine below_alloc ?_))
  have HWs:Hid (W.heap.size=w.heap.size+1):=Lib.hid (by rw[←hW];simp)
  have HBW:Hid (W.heap.size≤W.heap.size):=Lib.hid (by have:=HWs.out;omega)
  have HC:=fun(W1:World) (hb:Below (W.heap.size) W W1)=>Lib.hid (show W1.cell? ⟨w.heap.size,0,none⟩=some (.slice va vn vc)∧W1.cell? ⟨w.heap.size,1,none⟩=some (.slice ea en ec) from by have hs:=HWs.out;refine⟨?_, ?_⟩<;>(refine(hb.cell (by dsimp only;omega)).trans ?_;rw[←hW];clear hW;go_simp))
  have HB:=Lib.hid (Below.refl (W.heap.size) W)
  clear hW
  have HZ:=fun(W1:World) (hb:W.heap.size≤W1.heap.size)=>Lib.hid (show w.heap.size<W1.heap.size from by have:=HWs.out;omega)
  obtain⟨qx0,qx1⟩:=(HC _ HB.out).out
  have rx0:=(HZ _ HB.out.size).out
  refine((HRT _ HW.out).out).mono ?_
  rintro e w1 ⟨rfl,hb4⟩
  have HB:=bnx HB HBW hb4
  clear qx0 qx1 rx0
  obtain⟨qx0,qx1⟩:=(HC _ HB.out).out
  clear hb4
  have rx0:=(HZ _ HB.out.size).out
  go_wp2_with fail
  have HX1:=Lib.hid (show W.heap.size≤w1.heap.size from HB.out.size)
  clear qx0 qx1 rx0
  go_loopw [6,17] (fun o i wr=> ∃(k:Nat) (ov:Value),k≤n∧i= .int .i64 k∧ov=o∧PtsS W wr p R k ov) (fun _ i _=>n - (intOf i).toNat)
  case atStart=>exact⟨0,_,Nat.zero_le _,rfl,rfl,World.ownsRow_nil _ _ _ _,fun x hx=>by simp at hx,HB.out⟩
  case round=>
   clear HB
   obtain⟨k,ov,hk,rfl,rfl,hI⟩:=hrel
   have HI:=Lib.hid hI
   have HB:=Lib.hid hI.below
   clear hI
   obtain⟨qx0,qx1⟩:=(HC _ HB.out).out
   have rx0:=(HZ _ HB.out.size).out
   by_cases hlt:k<n
   ·have HXW:=Lib.hid (HW.out.trans (HB.out.mono HW.out.size))
    obtain⟨rb,roff,x,rfl,hrb,hx,c0,c1⟩:=(HRS _ HXW.out).out.at_ hlt
    have HXK:=Lib.hid hx
    have hrw:rb<wr.heap.size:=by have:=HXW.out.size;omega
    have HE2:=fun(W1:World) (hb:Below wr.heap.size wr W1)=>HEN W1 (below_step hb HXW.out) x
    have HTK:=Lib.hid (take_snoc' hx)
    cases hke:hasE p.es x.edge
    ·have F:=Lib.hid (show knownB p R=false from by
      unfold knownB
      rw[List.all_eq_false]
      exact⟨x,List.mem_of_getElem? hx,by rw[hke];decide⟩)
     rw[hke] at HE2
     clear hx hke
     go_wp2_with fail
     refine(HE2 _ (below_alloc (Below.refl _ _))).out.mono ?_
     rintro e w3 ⟨rfl,hb3⟩
     have HB3:=Lib.hid (below_step hb3 (below_alloc (Below.refl wr.heap.size wr)))
     clear hb3
     go_wp2_with fail
     go_ret2
     refine .inr ⟨.inr F.out,rfl, ?_⟩
     exact below_alloc (below_alloc (below_step HB3.out HXW.out))
    ·have HKE:=Lib.hid hke
     rw[hke] at HE2
     clear hx hke
     obtain⟨⟨⟨ax,ay⟩,⟨bx,by_⟩⟩,hep⟩: ∃q,q=endsP p x:=⟨_,rfl⟩
     have HEP:=Lib.hid hep
     rw[←hep] at HE2
     simp only[ptV] at HE2
     clear hep
     go_wp2_with fail
     refine(HE2 _ (below_alloc (Below.refl _ _))).out.mono ?_
     rintro e w3 ⟨rfl,hb3⟩
     have HB3:=Lib.hid (below_step hb3 (below_alloc (Below.refl wr.heap.size wr)))
     clear hb3
     go_wp2_with (at_builtin;go_loud (refine wpList_append_near _ rfl (.tmp 30) (.tmp 34) 106 rfl W.heap.size 156 i0 (.agg #[.int .i64 0, .int .i64 0, .int .i64 0, .int .i64 0]) 4 32 Try.underlying106 hi hz0 hz1 hz2 rfl (by decide) ov k _ rfl ((((ownsRow_touch HI.out.own (Touch.of_below (F:=[]) HB3.out) (by simp)).alloc _).alloc _).alloc _) ⟨w3.heap.size+1+1,0,none⟩ 1 1 [.int .i64 ax, .int .i64 ay, .int .i64 bx, .int .i64 by_] rfl (by decide) rfl ?c1 (by simp[Value.oneCell']) (by unfold maxLen;omega) (by omega) ?c5 ?_))
     case c1=>exact cell_list_at _ [.int .i64 ax, .int .i64 ay, .int .i64 bx, .int .i64 by_] _ (by simp)
     case c5=>have:=HI.out.below.size;have:=HB3.out.size;simp;omega
     intro g cap w5 hown hgr hat
     have hb4:Below wr.heap.size wr (((w3.alloc (.cells #[.int .i64 ax, .int .i64 ay] 51)).alloc (.cells #[.int .i64 bx, .int .i64 by_] 51)).alloc (.cells #[.int .i64 ax, .int .i64 ay, .int .i64 bx, .int .i64 by_] 156)):=below_alloc (below_alloc (below_alloc HB3.out))
     have HN:=Lib.hid (show PtsS W w5 p R (k+1) (.slice (some ⟨g,0,none⟩) (k+1) cap) from by
      refine⟨?_, ?_, ?_⟩
      ·rw[HTK.out,List.map_append,List.flatMap_append]
       show w5.ownsRow _ _ _ _ _ (_++([endsP p x].flatMap lnC))
       rw[←HEP.out,List.map_take]
       exact hown
      ·intro y hy
       rw[HTK.out] at hy
       rcases List.mem_append.1 hy with hy|hy
       ·exact HI.out.kn y hy
       ·simp at hy;subst hy;exact HKE.out
      ·exact(HI.out.below.trans (hb4.mono HI.out.below.size)).grown hgr (Nat.le_trans HI.out.below.size hb4.size) (fun q hq=>(HI.out.own.lt q hq).1))
     clear hown hgr hat hb4
     go_wp2_with fail
     go_roundw
     case rel=>exact⟨k+1,_,by omega,by go_num,rfl,HN.out⟩
     case measure=>simp[intOf];omega
   ·obtain rfl:k=n:=by omega
    obtain⟨oa,oc,rfl⟩:=own_form HI.out.own
    go_wp2_with fail
    go_ret2
    have hk:=HRL.out
    subst hk
    have h1:=HI.out.own
    have h2:=HI.out.kn
    rw[List.take_length] at h1 h2
    exact .inl ⟨oa,oc,HRB.out,List.all_eq_true.2 h2,rfl,ownsRow_le h1 HW.out.size,HW.out.trans (HB.out.mono HW.out.size)⟩
end Go.Proofs.Ythopjhifepijiaa
namespace Go.Proofs.Ythopjhifepijiaa
open Go.RowKit
def wrd (n:Int):Nat→Int
 |0=>n % 18446744073709551616
 |1=>n / 18446744073709551616 % 18446744073709551616
 |2=>n / 340282366920938463463374607431768211456 % 18446744073709551616
 |_=>n / 6277101735386680763835789423207666416102355444464034512896 % 18446744073709551616
def Fits (n:Int):Prop:= -57896044618658097711785492504343953926634992332820282019728792003956564819968≤n∧n<57896044618658097711785492504343953926634992332820282019728792003956564819968
theorem wrd_bd (n:Int) (j:Nat):0≤wrd n j∧wrd n j<18446744073709551616:=by
 rcases j with _|_|_|j<;>(simp only[wrd];omega)
theorem wrd_neg {n:Int} (h:Fits n):9223372036854775808≤wrd n 3↔n<0:=by unfold Fits at h;show 9223372036854775808≤n / _ % _↔_;omega
theorem wrd_zero {n:Int} (h:Fits n) (h0:wrd n 0=0) (h1:wrd n 1=0) (h2:wrd n 2=0) (h3:wrd n 3=0):n=0:=by
 unfold Fits at h
 simp only[wrd] at h0 h1 h2 h3
 omega
set_option maxRecDepth 100000 in
theorem of_any (n:Int) (w:World) (h0: -9223372036854775808≤n) (h1:n≤9223372036854775807):Calls Try.prog 37 #[.int .i64 n] w fun e w'=>e= .returned (.agg #[.int .u64 (wrd n 0), .int .u64 (wrd n 1), .int .u64 (wrd n 2), .int .u64 (wrd n 3)])∧Below w.heap.size w w':=by
 have hd:(n / 18446744073709551616= -1∧n / 340282366920938463463374607431768211456= -1∧n / 6277101735386680763835789423207666416102355444464034512896= -1∧n / 9223372036854775808= -1)∨
   (n / 18446744073709551616=0∧n / 340282366920938463463374607431768211456=0∧n / 6277101735386680763835789423207666416102355444464034512896=0∧n / 9223372036854775808=0):=by
  rcases(show n<0∨0≤n by omega) with h|h
  ·exact .inl ⟨by omega,by omega,by omega,by omega⟩
  ·exact .inr ⟨by omega,by omega,by omega,by omega⟩
 have e1:wrd n 1=wrd n 3:=by simp only[wrd];rcases hd with ⟨a,b,c,d⟩|⟨a,b,c,d⟩<;>rw[a,c]
 have e2:wrd n 2=wrd n 3:=by simp only[wrd];rcases hd with ⟨a,b,c,d⟩|⟨a,b,c,d⟩<;>rw[b,c]
 have q0:IntKind.u64.wrap n=wrd n 0:=by rw[IntKind.wrap_u64];rfl
 have q1:IntKind.u64.wrap (n / 9223372036854775808)=wrd n 3:=by rw[IntKind.wrap_u64];simp only[wrd];rcases hd with ⟨a,b,c,d⟩|⟨a,b,c,d⟩<;>rw[d,c]
 clear hd
 rw[e1,e2]
 clear e1 e2
 generalize wrd n 0=a at*
 generalize wrd n 3=b at*
 go_enter Try.func37,Try.ntmps37
 go_wp2_with fail
 exact bodyPost_ret (v:= .agg #[.int .u64 a, .int .u64 b, .int .u64 b, .int .u64 b]) (by simp[results,Try.results37,go_sem]) rfl ⟨rfl,below_alloc (Below.refl _ _)⟩
set_option maxRecDepth 100000 in
theorem belowW_any (n:Int) (w:World) (h:Fits n):Calls Try.prog 45 #[.agg #[.int .u64 (wrd n 0), .int .u64 (wrd n 1), .int .u64 (wrd n 2), .int .u64 (wrd n 3)]] w fun e w'=>e= .returned (.bool (decide (n<0)))∧Below w.heap.size w w':=by
 have hb:=wrd_bd n 3
 have hn:=wrd_neg h
 generalize wrd n 0=a0 at*
 generalize wrd n 1=a1 at*
 generalize wrd n 2=a2 at*
 generalize wrd n 3=a3 at*
 by_cases hx:n<0
 ·rw[decide_eq_true hx]
  have hq:(a3 / 9223372036854775808==1)=true:=by have:=hn.2 hx;rw[beq_iff_eq];omega
  clear hn hx
  go_enter Try.func45,Try.ntmps45
  go_wp2_with fail
  go_ret
  exact⟨rfl,below_alloc (Below.refl _ _)⟩
 ·rw[decide_eq_false hx]
  have hq:(a3 / 9223372036854775808==1)=false:=by have:=fun h=>hx (hn.1 h);rw[beq_eq_false_iff_ne];omega
  clear hn hx
  go_enter Try.func45,Try.ntmps45
  go_wp2_with fail
  go_ret
  exact⟨rfl,below_alloc (Below.refl _ _)⟩
abbrev wdC (n:Int):Obj:= .cells #[.int .u64 (wrd n 0), .int .u64 (wrd n 1), .int .u64 (wrd n 2), .int .u64 (wrd n 3)] 36
theorem wd_cells (w:World) (n:Int) {W:World} (hb:Below (w.alloc (wdC n)).heap.size (w.alloc (wdC n)) W):W.cell? ⟨w.heap.size,0,none⟩=some (.int .u64 (wrd n 0))∧W.cell? ⟨w.heap.size,1,none⟩=some (.int .u64 (wrd n 1))∧W.cell? ⟨w.heap.size,2,none⟩=some (.int .u64 (wrd n 2))∧W.cell? ⟨w.heap.size,3,none⟩=some (.int .u64 (wrd n 3)):=by
 refine⟨(hb.cell (p:=⟨w.heap.size,0,none⟩) (by simp)).trans ?_,(hb.cell (p:=⟨w.heap.size,1,none⟩) (by simp)).trans ?_,(hb.cell (p:=⟨w.heap.size,2,none⟩) (by simp)).trans ?_,(hb.cell (p:=⟨w.heap.size,3,none⟩) (by simp)).trans ?_⟩
 all_goals simp[World.cell?_alloc_new]
theorem eq_wd (a0 a1 a2 a3 b0 b1 b2 b3:Int) (w:World):(binOp .eql 36 (.agg #[.int .u64 a0, .int .u64 a1, .int .u64 a2, .int .u64 a3]) (.agg #[.int .u64 b0, .int .u64 b1, .int .u64 b2, .int .u64 b3])).run Try.prog w= .ok (.bool ([a0,a1,a2,a3]== [b0,b1,b2,b3])) w:=
 eql_ints w 36 34 4 .u64 Try.underlying36 Try.underlying34 (fun _=>by kernel_rfl) [a0,a1,a2,a3] [b0,b1,b2,b3] rfl rfl
set_option maxRecDepth 100000 in
set_option maxHeartbeats 1000000 in
theorem signW_any (n:Int) (w:World) (h:Fits n):Calls Try.prog 14 #[.agg #[.int .u64 (wrd n 0), .int .u64 (wrd n 1), .int .u64 (wrd n 2), .int .u64 (wrd n 3)]] w fun e w'=>e= .returned (.int .i64 n.sign)∧Below w.heap.size w w':=by
 have H1:=fun w=>Lib.hid (belowW_any n w h)
 have HW:=fun(W:World) hb=>Lib.hid (wd_cells w n (W:=W) hb)
 have hz:=wrd_zero h
 rcases sign_cases n with ⟨h0,e⟩|⟨h0,e⟩|⟨h0,e⟩
 ·rw[e]
  rw[decide_eq_true h0] at H1
  clear e h0 hz
  go_enter Try.func14,Try.ntmps14
  go_wp2_with fail
  refine(H1 _).out.mono ?_
  rintro e w1 ⟨rfl,hb1⟩
  have HB:=Lib.hid (below_step hb1 (below_alloc (Below.refl _ _)))
  clear hb1
  go_wp2_with fail
  go_ret
  exact⟨rfl,HB.out⟩
 ·rw[e]
  subst h0
  rw[decide_eq_false (by decide)] at H1
  have r1:=fun w=>(eq_wd (wrd 0 0) (wrd 0 1) (wrd 0 2) (wrd 0 3) 0 0 0 0 w).trans (by rw[show([wrd 0 0,wrd 0 1,wrd 0 2,wrd 0 3]== [0,0,0,0])=true by decide])
  clear e hz
  go_enter Try.func14,Try.ntmps14
  go_wp2_with fail
  refine(H1 _).out.mono ?_
  rintro e w1 ⟨rfl,hb1⟩
  have HB:=Lib.hid (below_step hb1 (below_alloc (Below.refl _ _)))
  obtain⟨q0,q1,q2,q3⟩:=(HW _ hb1).out
  clear hb1
  go_wp2_with fail
  go_ret
  exact⟨rfl,HB.out⟩
 ·rw[e]
  rw[decide_eq_false (by omega)] at H1
  clear e
  have hne: ¬(wrd n 0=0∧wrd n 1=0∧wrd n 2=0∧wrd n 3=0):=fun hh=>by have:=hz hh.1 hh.2.1 hh.2.2.1 hh.2.2.2;omega
  have r1:=fun w=>(eq_wd (wrd n 0) (wrd n 1) (wrd n 2) (wrd n 3) 0 0 0 0 w).trans (by rw[show([wrd n 0,wrd n 1,wrd n 2,wrd n 3]== [0,0,0,0])=false by rw[beq_eq_false_iff_ne];intro hh;injection hh with x0 hh;injection hh with x1 hh;injection hh with x2 hh;injection hh with x3 hh;exact hne ⟨x0,x1,x2,x3⟩])
  clear h0 hz hne
  go_enter Try.func14,Try.ntmps14
  go_wp2_with fail
  refine(H1 _).out.mono ?_
  rintro e w1 ⟨rfl,hb1⟩
  have HB:=Lib.hid (below_step hb1 (below_alloc (Below.refl _ _)))
  obtain⟨q0,q1,q2,q3⟩:=(HW _ hb1).out
  clear hb1
  go_wp2_with fail
  go_ret
  exact⟨rfl,HB.out⟩
end Go.Proofs.Ythopjhifepijiaa
namespace Go.Proofs.Ythopjhifepijiaa
open Go.RowKit
def cry (a b:Int):Nat→Int
 |0=>0
 |1=>(a % 18446744073709551616+b % 18446744073709551616) / 18446744073709551616
 |2=>(a % 340282366920938463463374607431768211456+b % 340282366920938463463374607431768211456) / 340282366920938463463374607431768211456
 |_=>(a % 6277101735386680763835789423207666416102355444464034512896+b % 6277101735386680763835789423207666416102355444464034512896) / 6277101735386680763835789423207666416102355444464034512896
theorem add_run (x y c:Int) (hx:0≤x) (hy:0≤y) (hc0:0≤c) (hc:c≤1) (w:World):(callFunc 46 #[.int .u64 x, .int .u64 y, .int .u64 c]).run Try.prog w=
  .ok (.value (.tuple #[.int .u64 ((x+y+c) % 18446744073709551616), .int .u64 ((x+y+c) / 18446744073709551616)])) w:=by
 rw[run_callFunc_extern Try.func46 (by kernel_rfl) (by kernel_rfl) (by kernel_rfl) (e:=add64Entry) (by kernel_rfl),run_add64 x y c hx hy hc0 hc]
 rfl
theorem cry_bd (a b:Int) (j:Nat):0≤cry a b j∧cry a b j≤1:=by
 rcases j with _|_|_|j<;>(simp only[cry];omega)
theorem cry_word (a b:Int) (j:Nat) (hj:j<4):(wrd a j+wrd b j+cry a b j) % 18446744073709551616=wrd (a+b) j:=by
 rcases j with _|_|_|_|j
 ·simp only[wrd,cry];omega
 ·simp only[wrd,cry];omega
 ·simp only[wrd,cry];omega
 ·simp only[wrd,cry];omega
 ·omega
theorem cry_next (a b:Int) (j:Nat) (hj:j<3):(wrd a j+wrd b j+cry a b j) / 18446744073709551616=cry a b (j+1):=by
 rcases j with _|_|_|j
 ·simp only[wrd,cry];omega
 ·simp only[wrd,cry];omega
 ·simp only[wrd,cry];omega
 ·omega
def wdF (n:Int) (j:Nat):Value:= .int .u64 (wrd n j)
def sumF (n:Int) (k j:Nat):Value:=if j<k then .int .u64 (wrd n j) else .int .u64 0
structure AddIn (w wr:World) (a b:Int) (k:Nat):Prop where
 ra:wr.rowIs w.heap.size 36 4 (wdF a)
 rb:wr.rowIs (w.heap.size+1) 36 4 (wdF b)
 rr:wr.rowIs (w.heap.size+1+1) 36 4 (fun _=> .int .u64 0)
 ro:wr.rowIs (w.heap.size+1+1+1) 36 4 (sumF (a+b) k)
 below:Below w.heap.size w wr
theorem addIn_start (w:World) (a b:Int):AddIn w ((((w.alloc (wdC a)).alloc (wdC b)).alloc (.cells #[.int .u64 0, .int .u64 0, .int .u64 0, .int .u64 0] 36)).alloc (.cells #[.int .u64 0, .int .u64 0, .int .u64 0, .int .u64 0] 36)) a b 0:=by
 have f (n:Int): ∀i,i<4→(#[Value.int .u64 (wrd n 0), .int .u64 (wrd n 1), .int .u64 (wrd n 2), .int .u64 (wrd n 3)]:Array Value)[i]? =some (wdF n i):=fun i hi=>by
  rcases i with _|_|_|_|i<;>first|rfl|omega
 have z: ∀i,i<4→(#[Value.int .u64 0, .int .u64 0, .int .u64 0, .int .u64 0]:Array Value)[i]? =some (.int .u64 0):=fun i hi=>by
  rcases i with _|_|_|_|i<;>first|rfl|omega
 have h1:=World.rowIs_alloc w #[Value.int .u64 (wrd a 0), .int .u64 (wrd a 1), .int .u64 (wrd a 2), .int .u64 (wrd a 3)] 36 (wdF a) (f a)
 have h2:=World.rowIs_alloc (w.alloc (wdC a)) #[Value.int .u64 (wrd b 0), .int .u64 (wrd b 1), .int .u64 (wrd b 2), .int .u64 (wrd b 3)] 36 (wdF b) (f b)
 have h3:=World.rowIs_alloc ((w.alloc (wdC a)).alloc (wdC b)) #[Value.int .u64 0, .int .u64 0, .int .u64 0, .int .u64 0] 36 (fun _=> .int .u64 0) z
 have h4:=World.rowIs_alloc (((w.alloc (wdC a)).alloc (wdC b)).alloc (.cells #[.int .u64 0, .int .u64 0, .int .u64 0, .int .u64 0] 36)) #[Value.int .u64 0, .int .u64 0, .int .u64 0, .int .u64 0] 36 (fun _=> .int .u64 0) z
 refine⟨?_, ?_, ?_, ?_, ?_⟩
 ·exact World.rowIs.alloc (World.rowIs.alloc (World.rowIs.alloc h1 _) _) _
 ·have e:(w.alloc (wdC a)).heap.size=w.heap.size+1:=by simp
  rw[e] at h2
  exact World.rowIs.alloc (World.rowIs.alloc h2 _) _
 ·have e:((w.alloc (wdC a)).alloc (wdC b)).heap.size=w.heap.size+1+1:=by simp
  rw[e] at h3
  exact World.rowIs.alloc h3 _
 ·have e:(((w.alloc (wdC a)).alloc (wdC b)).alloc (.cells #[.int .u64 0, .int .u64 0, .int .u64 0, .int .u64 0] 36)).heap.size=w.heap.size+1+1+1:=by simp
  rw[e] at h4
  exact World.rowIs.congr h4 (fun i _=>by simp[sumF])
 ·exact below_alloc (below_alloc (below_alloc (below_alloc (Below.refl _ _))))
theorem AddIn.step {w wr:World} {a b:Int} {k:Nat} (h:AddIn w wr a b k) (hk:k<4):AddIn w (wr.setCell ⟨w.heap.size+1+1+1,k,none⟩ (.int .u64 (wrd (a+b) k))).drew a b (k+1):=by
 refine⟨World.rowIs.setOther h.ra (by simp;omega) _,World.rowIs.setOther h.rb (by simp) _,World.rowIs.setOther h.rr (by simp) _,World.rowIs.congr (World.rowIs.set h.ro k _) (fun i hi=> ?_),below_drew (h.below.setCell (by simp;omega) _)⟩
 unfold sumF
 by_cases e:i=k
 ·subst e;simp
 ·simp only[e,if_false]
  by_cases h':i<k
  ·rw[if_pos h',if_pos (by omega)]
  ·rw[if_neg h',if_neg (by omega)]
theorem AddIn.later {w wr:World} {a b:Int} {k:Nat} (h:AddIn w wr a b k) (x:Later wr):AddIn w x.1 a b k:=
 ⟨rowIs_touch (F:=[]) h.ra (Touch.of_below x.2) List.not_mem_nil,rowIs_touch (F:=[]) h.rb (Touch.of_below x.2) List.not_mem_nil,rowIs_touch (F:=[]) h.rr (Touch.of_below x.2) List.not_mem_nil,rowIs_touch (F:=[]) h.ro (Touch.of_below x.2) List.not_mem_nil,below_step x.2 h.below⟩
set_option maxRecDepth 100000 in
set_option maxHeartbeats 4000000 in
theorem addW_any (a b:Int) (w:World) (ha:Fits a) (hb:Fits b) (hab:Fits (a+b)):
  Calls Try.prog 16 #[.agg #[.int .u64 (wrd a 0), .int .u64 (wrd a 1), .int .u64 (wrd a 2), .int .u64 (wrd a 3)], .agg #[.int .u64 (wrd b 0), .int .u64 (wrd b 1), .int .u64 (wrd b 2), .int .u64 (wrd b 3)]] w
   fun e w'=>e= .returned (.tuple #[.agg #[.int .u64 (wrd (a+b) 0), .int .u64 (wrd (a+b) 1), .int .u64 (wrd (a+b) 2), .int .u64 (wrd (a+b) 3)], .int .i64 0])∧Below w.heap.size w w':=by
 have HS:=Lib.hid (addIn_start w a b)
 go_enter Try.func16,Try.ntmps16
 go_wp2_with fail
 go_loopw [7,9] (fun c i wr=> ∃(k:Nat) (u:Int),k≤4∧i= .int .i64 k∧c= .int .u64 u∧(k<4→u=cry a b k)∧AddIn w wr a b k) (fun _ i _=>4 - (intOf i).toNat)
 case atStart=>exact⟨0,0,Nat.zero_le _,rfl,rfl,fun _=>rfl,HS.out⟩
 case round=>
  clear HS
  obtain⟨k,u,hk,rfl,rfl,hu,hA⟩:=hrel
  by_cases hlt:k<4
  ·obtain rfl:=hu hlt
   clear hu
   have ca:=World.rowIs.cell hA.ra hlt
   have cb:=World.rowIs.cell hA.rb hlt
   have co:=World.rowIs.cell hA.ro hlt
   have fo:=World.rowIs.frozen hA.ro k
   have hcb:=cry_bd a b k
   have b1:=wrd_bd a k
   have b2:=wrd_bd b k
   have HA:=Lib.hid hA
   have hr: ∀w,(callFunc 46 #[.int .u64 (wrd a k), .int .u64 (wrd b k), .int .u64 (cry a b k)]).run Try.prog w=
    .ok (.value (.tuple #[.int .u64 (wrd (a+b) k), .int .u64 ((wrd a k+wrd b k+cry a b k) / 18446744073709551616)])) w:=fun w=>by rw[add_run _ _ _ b1.1 b2.1 hcb.1 hcb.2,cry_word a b k hlt]
   unfold wdF at ca cb
   clear hA hcb b1 b2
   go_wp2_with fail
   go_region
   go_wp2_with fail
   go_roundw
   case rel=>exact⟨k+1,_,by omega,by go_num,rfl,fun h=>cry_next a b k (by omega),HA.out.step hlt⟩
   case measure=>simp[intOf];omega
  ·obtain rfl:k=4:=by omega
   clear hu
   have HA:=fun(x:Later wr)=>Lib.hid (AddIn.later hA x)
   have HBE:=Lib.hid hA.below
   have H1:=fun w=>Lib.hid (belowW_any a w ha)
   have H2:=fun w=>Lib.hid (belowW_any b w hb)
   have H3:=fun w=>Lib.hid (belowW_any (a+b) w hab)
   have y0:=fun(x:Later wr)=>World.rowIs.cell (HA x).out.ra (i:=0) (by decide)
   have y1:=fun(x:Later wr)=>World.rowIs.cell (HA x).out.ra (i:=1) (by decide)
   have y2:=fun(x:Later wr)=>World.rowIs.cell (HA x).out.ra (i:=2) (by decide)
   have y3:=fun(x:Later wr)=>World.rowIs.cell (HA x).out.ra (i:=3) (by decide)
   have z0:=fun(x:Later wr)=>World.rowIs.cell (HA x).out.rb (i:=0) (by decide)
   have z1:=fun(x:Later wr)=>World.rowIs.cell (HA x).out.rb (i:=1) (by decide)
   have z2:=fun(x:Later wr)=>World.rowIs.cell (HA x).out.rb (i:=2) (by decide)
   have z3:=fun(x:Later wr)=>World.rowIs.cell (HA x).out.rb (i:=3) (by decide)
   have o0:=fun(x:Later wr)=>World.rowIs.cell (HA x).out.ro (i:=0) (by decide)
   have o1:=fun(x:Later wr)=>World.rowIs.cell (HA x).out.ro (i:=1) (by decide)
   have o2:=fun(x:Later wr)=>World.rowIs.cell (HA x).out.ro (i:=2) (by decide)
   have o3:=fun(x:Later wr)=>World.rowIs.cell (HA x).out.ro (i:=3) (by decide)
   simp only[wdF,sumF] at y0 y1 y2 y3 z0 z1 z2 z3 o0 o1 o2 o3
   simp only[show(0:Nat)<4 by decide,show(1:Nat)<4 by decide,show(2:Nat)<4 by decide,show(3:Nat)<4 by decide,if_true] at o0 o1 o2 o3
   have hsg:(decide (a<0)=decide (b<0))→decide (a+b<0)=decide (a<0):=by
    intro h
    rw[decide_eq_decide] at h ⊢
    omega
   generalize decide (a<0)=v1 at*
   generalize decide (b<0)=v2 at*
   generalize decide (a+b<0)=v3 at*
   have hv:(v1=true∧v2=true∧v3=true)∨(v1=false∧v2=false∧v3=false)∨(v1=true∧v2=false)∨(v1=false∧v2=true):=by
    cases v1<;>cases v2<;>simp_all
   clear hsg hA ha hb hab
   rcases hv with ⟨rfl,rfl,rfl⟩|⟨rfl,rfl,rfl⟩|⟨rfl,rfl⟩|⟨rfl,rfl⟩
   all_goals
    go_wp2_with fail
    refine wp_region_later (by kernel_rfl) (by kernel_rfl) ?_
    repeat (first|go_big_quiet_step ((first|(go_at_call 45;with_reducible refine Later.call (H1 _).out)|(go_at_call 45;with_reducible refine Later.call (H2 _).out)|(go_at_call 45;with_reducible refine Later.call (H3 _).out)))|quiet_step ((first|(go_at_call 45;with_reducible refine Later.call (H1 _).out)|(go_at_call 45;with_reducible refine Later.call (H2 _).out)|(go_at_call 45;with_reducible refine Later.call (H3 _).out))))
    refine wpQuiet_nil ?_
    intro w1 hw
    obtain⟨x,hx⟩:=hw
    have hb1:Below wr.heap.size wr w1:=hx▸x.2
    clear hx x
    have HB1:=Lib.hid hb1
    have p0:=o0 ⟨w1,hb1⟩
    have p1:=o1 ⟨w1,hb1⟩
    have p2:=o2 ⟨w1,hb1⟩
    have p3:=o3 ⟨w1,hb1⟩
    have fr:=fun j=>World.rowIs.frozen ((HA ⟨w1,hb1⟩).out.rr) j
    have c0:=World.rowIs.cell ((HA ⟨w1,hb1⟩).out.rr) (i:=0) (by decide)
    have c1:=World.rowIs.cell ((HA ⟨w1,hb1⟩).out.rr) (i:=1) (by decide)
    have c2:=World.rowIs.cell ((HA ⟨w1,hb1⟩).out.rr) (i:=2) (by decide)
    have c3:=World.rowIs.cell ((HA ⟨w1,hb1⟩).out.rr) (i:=3) (by decide)
    simp only at p0 p1 p2 p3 fr c0 c1 c2 c3
    clear y0 y1 y2 y3 z0 z1 z2 z3 o0 o1 o2 o3 hb1
    go_wp2_with fail
    exact bodyPost_ret (v:= .tuple #[.agg #[.int .u64 (wrd (a+b) 0), .int .u64 (wrd (a+b) 1), .int .u64 (wrd (a+b) 2), .int .u64 (wrd (a+b) 3)], .int .i64 0]) (by simp[results,Try.results16,go_sem,c0,c1,c2,c3]) rfl
     ⟨rfl,((((below_step HB1.out HBE.out).setCell (by simp;omega) _).setCell (by simp;omega) _).setCell (by simp;omega) _).setCell (by simp;omega) _⟩
end Go.Proofs.Ythopjhifepijiaa
namespace Go.Proofs.Ythopjhifepijiaa
open Go.RowKit
def cmpI (a b:Int):Int:=if a<b then -1 else if b<a then 1 else 0
theorem cmp_word {a b:Int} {k:Nat} (hk:k<4) (ha:Fits a) (hb:Fits b) (hs:a<0↔b<0) (he: ∀j,k<j→j<4→wrd a j=wrd b j) (hlt:wrd a k<wrd b k):a<b:=by
 unfold Fits at ha hb
 rcases k with _|_|_|_|k
 ·have h1:=he 1 (by omega) (by omega)
  have h2:=he 2 (by omega) (by omega)
  have h3:=he 3 (by omega) (by omega)
  simp only[wrd] at*
  omega
 ·have h2:=he 2 (by omega) (by omega)
  have h3:=he 3 (by omega) (by omega)
  simp only[wrd] at*
  omega
 ·have h3:=he 3 (by omega) (by omega)
  simp only[wrd] at*
  omega
 ·simp only[wrd] at*
  omega
 ·omega
theorem cmp_same {a b:Int} (ha:Fits a) (hb:Fits b) (hs:a<0↔b<0) (he: ∀j,j<4→wrd a j=wrd b j):a=b:=by
 unfold Fits at ha hb
 have h0:=he 0 (by omega)
 have h1:=he 1 (by omega)
 have h2:=he 2 (by omega)
 have h3:=he 3 (by omega)
 simp only[wrd] at*
 omega
structure CmpIn (w wr:World) (a b:Int):Prop where
 ra:wr.rowIs w.heap.size 36 4 (wdF a)
 rb:wr.rowIs (w.heap.size+1) 36 4 (wdF b)
 below:Below w.heap.size w wr
theorem wdF_get (n:Int): ∀i,i<4→(#[Value.int .u64 (wrd n 0), .int .u64 (wrd n 1), .int .u64 (wrd n 2), .int .u64 (wrd n 3)]:Array Value)[i]? =some (wdF n i):=fun i hi=>by
 rcases i with _|_|_|_|i<;>first|rfl|omega
theorem cmpIn_start (w:World) (a b:Int):CmpIn w ((w.alloc (wdC a)).alloc (wdC b)) a b:=by
 have h1:=World.rowIs_alloc w #[Value.int .u64 (wrd a 0), .int .u64 (wrd a 1), .int .u64 (wrd a 2), .int .u64 (wrd a 3)] 36 (wdF a) (wdF_get a)
 have h2:=World.rowIs_alloc (w.alloc (wdC a)) #[Value.int .u64 (wrd b 0), .int .u64 (wrd b 1), .int .u64 (wrd b 2), .int .u64 (wrd b 3)] 36 (wdF b) (wdF_get b)
 have e:(w.alloc (wdC a)).heap.size=w.heap.size+1:=by simp
 rw[e] at h2
 exact⟨World.rowIs.alloc h1 _,h2,below_alloc (below_alloc (Below.refl _ _))⟩
theorem CmpIn.later {w wr:World} {a b:Int} (h:CmpIn w wr a b) {w1:World} (x:Below wr.heap.size wr w1):CmpIn w w1 a b:=
 ⟨rowIs_touch (F:=[]) h.ra (Touch.of_below x) List.not_mem_nil,rowIs_touch (F:=[]) h.rb (Touch.of_below x) List.not_mem_nil,below_step x h.below⟩
set_option maxRecDepth 100000 in
set_option maxHeartbeats 4000000 in
theorem cmpW_any (a b:Int) (w:World) (ha:Fits a) (hb:Fits b):
  Calls Try.prog 89 #[.agg #[.int .u64 (wrd a 0), .int .u64 (wrd a 1), .int .u64 (wrd a 2), .int .u64 (wrd a 3)], .agg #[.int .u64 (wrd b 0), .int .u64 (wrd b 1), .int .u64 (wrd b 2), .int .u64 (wrd b 3)]] w
   fun e w'=>e= .returned (.int .i64 (cmpI a b))∧Below w.heap.size w w':=by
 have HS:=cmpIn_start w a b
 obtain⟨W,hW⟩: ∃W,W=(w.alloc (wdC a)).alloc (wdC b):=⟨_,rfl⟩
 have HX:=fun(W':World) (h:Below W.heap.size W W')=>Lib.hid (CmpIn.later (hW▸HS) h)
 have H1:=fun w=>Lib.hid (belowW_any a w ha)
 have H2:=fun w=>Lib.hid (belowW_any b w hb)
 have y:=fun(x:Later W) (i:Nat) (hi:i<4)=>World.rowIs.cell (HX x.1 x.2).out.ra hi
 have z:=fun(x:Later W) (i:Nat) (hi:i<4)=>World.rowIs.cell (HX x.1 x.2).out.rb hi
 have y0:=fun x=>y x 0 (by decide)
 have y1:=fun x=>y x 1 (by decide)
 have y2:=fun x=>y x 2 (by decide)
 have y3:=fun x=>y x 3 (by decide)
 have z0:=fun x=>z x 0 (by decide)
 have z1:=fun x=>z x 1 (by decide)
 have z2:=fun x=>z x 2 (by decide)
 have z3:=fun x=>z x 3 (by decide)
 unfold wdF at y0 y1 y2 y3 z0 z1 z2 z3
 clear y z HS
 by_cases h1:a<0
 ·by_cases h2:b<0
  ·have hs:=Lib.hid (show a<0↔b<0 by omega)
   rw[decide_eq_true h1] at H1
   rw[decide_eq_true h2] at H2
   have ha:=Lib.hid ha
   have hb:=Lib.hid hb
   clear h1 h2
   go_enter Try.func89,Try.ntmps89
   go_wp2_with fail
   rw[←hW]
   clear hW
   refine wp_region_later (by kernel_rfl) (by kernel_rfl) ?_
   repeat (first|go_big_quiet_step ((first|(go_at_call 45;with_reducible refine Later.call (H1 _).out)|(go_at_call 45;with_reducible refine Later.call (H2 _).out)))|quiet_step ((first|(go_at_call 45;with_reducible refine Later.call (H1 _).out)|(go_at_call 45;with_reducible refine Later.call (H2 _).out))))
   refine wpQuiet_nil ?_
   intro w1 hw
   obtain⟨x,hx⟩:=hw
   have hb1:Below W.heap.size W w1:=hx▸x.2
   have p0:=y0 ⟨w1,hb1⟩
   have p1:=y1 ⟨w1,hb1⟩
   have p2:=y2 ⟨w1,hb1⟩
   have p3:=y3 ⟨w1,hb1⟩
   simp only at p0 p1 p2 p3
   have HA:=Lib.hid (HX _ hb1).out
   clear hx x y0 y1 y2 y3 z0 z1 z2 z3 hb1
   go_wp2_with fail
   go_loopw [5] (fun i wr=>CmpIn w wr a b∧((∃k:Nat,k<4∧i= .int .i64 k∧ ∀j,k<j→j<4→wrd a j=wrd b j)∨(i= .int .i64 (-1)∧ ∀j,j<4→wrd a j=wrd b j))) (fun i _=>(intOf i+1).toNat)
   case atStart=>exact⟨HA.out, .inl ⟨3,by omega,rfl,fun j h1 h2=>absurd h1 (by omega)⟩⟩
   case round=>
    clear HA p0 p1 p2 p3
    obtain⟨hA,⟨k,hk,rfl,he⟩|⟨rfl,he⟩⟩:=hrel
    ·have ca:=World.rowIs.cell hA.ra hk
     have cb:=World.rowIs.cell hA.rb hk
     unfold wdF at ca cb
     have HE:=Lib.hid he
     have HA:=Lib.hid hA
     clear he hA
     rcases Int.lt_trichotomy (wrd a k) (wrd b k) with hlt|heq|hgt
     ·have hl:=cmp_word hk ha.out hb.out hs.out HE.out hlt
      have d1:=decide_eq_true hlt
      have HC:Hid (cmpI a b= -1):=Lib.hid (by unfold cmpI;rw[if_pos hl])
      generalize wrd a k=u at*
      generalize wrd b k=v at*
      clear hl
      go_wp2_with fail
      go_quiet (fail)
      go_wp2_with fail
      go_ret
      exact⟨by rw[HC.out];rfl,below_drewN HA.out.below _⟩
     ·have d1:decide (wrd a k<wrd b k)=false:=decide_eq_false (by omega)
      have d2:decide (wrd b k<wrd a k)=false:=decide_eq_false (by omega)
      have HQ:=Lib.hid heq
      clear heq
      go_wp2_with fail
      go_quiet (fail)
      go_wp2_with fail
      go_quiet (fail)
      go_wp2_with fail
      go_roundw
      case rel=>
       refine⟨HA.out.later (below_drewN (Below.refl _ _) _), ?_⟩
       by_cases hk0:k=0
       ·subst hk0
        exact .inr ⟨by go_num,fun j hj=>by
         by_cases e:j=0
         ·subst e;exact HQ.out
         ·exact HE.out j (by omega) hj⟩
       ·exact .inl ⟨k - 1,by omega,by go_num,fun j h1 h2=>by
         by_cases e:j=k
         ·subst e;exact HQ.out
         ·exact HE.out j (by omega) h2⟩
      case measure=>first|(simp[intOf];done)|(simp[intOf];omega)
     ·have hl:=cmp_word hk hb.out ha.out hs.out.symm (fun j h1 h2=>(HE.out j h1 h2).symm) hgt
      have d1:decide (wrd a k<wrd b k)=false:=decide_eq_false (by omega)
      have d2:=decide_eq_true hgt
      have HC:Hid (cmpI a b=1):=Lib.hid (by unfold cmpI;rw[if_neg (by omega),if_pos hl])
      generalize wrd a k=u at*
      generalize wrd b k=v at*
      clear hl
      go_wp2_with fail
      go_quiet (fail)
      go_wp2_with fail
      go_quiet (fail)
      go_wp2_with fail
      go_ret
      exact⟨by rw[HC.out];rfl,below_drewN (below_drewN HA.out.below _) _⟩
    ·have HC:Hid (cmpI a b=0):=Lib.hid (by rw[cmp_same ha.out hb.out hs.out he];unfold cmpI;rw[if_neg (by omega),if_neg (by omega)])
     have HA:=Lib.hid hA
     clear he hA
     go_wp2_with fail
     go_ret
     exact⟨by rw[HC.out];rfl,HA.out.below⟩
  ·have e:cmpI a b= -1:=by unfold cmpI;rw[if_pos (by omega)]
   rw[e]
   rw[decide_eq_true h1] at H1
   rw[decide_eq_false h2] at H2
   clear e h1 h2 ha hb
   go_enter Try.func89,Try.ntmps89
   go_wp2_with fail
   rw[←hW]
   clear hW
   refine wp_region_later (by kernel_rfl) (by kernel_rfl) ?_
   repeat (first|go_big_quiet_step ((first|(go_at_call 45;with_reducible refine Later.call (H1 _).out)|(go_at_call 45;with_reducible refine Later.call (H2 _).out)))|quiet_step ((first|(go_at_call 45;with_reducible refine Later.call (H1 _).out)|(go_at_call 45;with_reducible refine Later.call (H2 _).out))))
   refine wpQuiet_nil ?_
   intro w1 hw
   obtain⟨x,hx⟩:=hw
   have hb1:Below W.heap.size W w1:=hx▸x.2
   have p0:=y0 ⟨w1,hb1⟩
   have p1:=y1 ⟨w1,hb1⟩
   have p2:=y2 ⟨w1,hb1⟩
   have p3:=y3 ⟨w1,hb1⟩
   simp only at p0 p1 p2 p3
   have HA:=Lib.hid (HX _ hb1).out
   clear hx x y0 y1 y2 y3 z0 z1 z2 z3 hb1
   go_wp2_with fail
   refine(H1 _).out.mono ?_
   rintro e w2 ⟨rfl,hb2⟩
   have HB:=Lib.hid (below_step hb2 HA.out.below)
   clear hb2
   go_wp2_with fail
   go_ret
   exact⟨rfl,HB.out⟩
 ·by_cases h2:b<0
  ·have e:cmpI a b=1:=by unfold cmpI;rw[if_neg (by omega),if_pos (by omega)]
   rw[e]
   rw[decide_eq_false h1] at H1
   rw[decide_eq_true h2] at H2
   clear e h1 h2 ha hb
   go_enter Try.func89,Try.ntmps89
   go_wp2_with fail
   rw[←hW]
   clear hW
   refine wp_region_later (by kernel_rfl) (by kernel_rfl) ?_
   repeat (first|go_big_quiet_step ((first|(go_at_call 45;with_reducible refine Later.call (H1 _).out)|(go_at_call 45;with_reducible refine Later.call (H2 _).out)))|quiet_step ((first|(go_at_call 45;with_reducible refine Later.call (H1 _).out)|(go_at_call 45;with_reducible refine Later.call (H2 _).out))))
   refine wpQuiet_nil ?_
   intro w1 hw
   obtain⟨x,hx⟩:=hw
   have hb1:Below W.heap.size W w1:=hx▸x.2
   have p0:=y0 ⟨w1,hb1⟩
   have p1:=y1 ⟨w1,hb1⟩
   have p2:=y2 ⟨w1,hb1⟩
   have p3:=y3 ⟨w1,hb1⟩
   simp only at p0 p1 p2 p3
   have HA:=Lib.hid (HX _ hb1).out
   clear hx x y0 y1 y2 y3 z0 z1 z2 z3 hb1
   go_wp2_with fail
   refine(H1 _).out.mono ?_
   rintro e w2 ⟨rfl,hb2⟩
   have HB:=Lib.hid (below_step hb2 HA.out.below)
   clear hb2
   go_wp2_with fail
   go_ret
   exact⟨rfl,HB.out⟩
  ·have hs:=Lib.hid (show a<0↔b<0 by omega)
   rw[decide_eq_false h1] at H1
   rw[decide_eq_false h2] at H2
   have ha:=Lib.hid ha
   have hb:=Lib.hid hb
   clear h1 h2
   go_enter Try.func89,Try.ntmps89
   go_wp2_with fail
   rw[←hW]
   clear hW
   refine wp_region_later (by kernel_rfl) (by kernel_rfl) ?_
   repeat (first|go_big_quiet_step ((first|(go_at_call 45;with_reducible refine Later.call (H1 _).out)|(go_at_call 45;with_reducible refine Later.call (H2 _).out)))|quiet_step ((first|(go_at_call 45;with_reducible refine Later.call (H1 _).out)|(go_at_call 45;with_reducible refine Later.call (H2 _).out))))
   refine wpQuiet_nil ?_
   intro w1 hw
   obtain⟨x,hx⟩:=hw
   have hb1:Below W.heap.size W w1:=hx▸x.2
   have p0:=y0 ⟨w1,hb1⟩
   have p1:=y1 ⟨w1,hb1⟩
   have p2:=y2 ⟨w1,hb1⟩
   have p3:=y3 ⟨w1,hb1⟩
   simp only at p0 p1 p2 p3
   have HA:=Lib.hid (HX _ hb1).out
   clear hx x y0 y1 y2 y3 z0 z1 z2 z3 hb1
   go_wp2_with fail
   go_loopw [5] (fun i wr=>CmpIn w wr a b∧((∃k:Nat,k<4∧i= .int .i64 k∧ ∀j,k<j→j<4→wrd a j=wrd b j)∨(i= .int .i64 (-1)∧ ∀j,j<4→wrd a j=wrd b j))) (fun i _=>(intOf i+1).toNat)
   case atStart=>exact⟨HA.out, .inl ⟨3,by omega,rfl,fun j h1 h2=>absurd h1 (by omega)⟩⟩
   case round=>
    clear HA p0 p1 p2 p3
    obtain⟨hA,⟨k,hk,rfl,he⟩|⟨rfl,he⟩⟩:=hrel
    ·have ca:=World.rowIs.cell hA.ra hk
     have cb:=World.rowIs.cell hA.rb hk
     unfold wdF at ca cb
     have HE:=Lib.hid he
     have HA:=Lib.hid hA
     clear he hA
     rcases Int.lt_trichotomy (wrd a k) (wrd b k) with hlt|heq|hgt
     ·have hl:=cmp_word hk ha.out hb.out hs.out HE.out hlt
      have d1:=decide_eq_true hlt
      have HC:Hid (cmpI a b= -1):=Lib.hid (by unfold cmpI;rw[if_pos hl])
      generalize wrd a k=u at*
      generalize wrd b k=v at*
      clear hl
      go_wp2_with fail
      go_quiet (fail)
      go_wp2_with fail
      go_ret
      exact⟨by rw[HC.out];rfl,below_drewN HA.out.below _⟩
     ·have d1:decide (wrd a k<wrd b k)=false:=decide_eq_false (by omega)
      have d2:decide (wrd b k<wrd a k)=false:=decide_eq_false (by omega)
      have HQ:=Lib.hid heq
      clear heq
      go_wp2_with fail
      go_quiet (fail)
      go_wp2_with fail
      go_quiet (fail)
      go_wp2_with fail
      go_roundw
      case rel=>
       refine⟨HA.out.later (below_drewN (Below.refl _ _) _), ?_⟩
       by_cases hk0:k=0
       ·subst hk0
        exact .inr ⟨by go_num,fun j hj=>by
         by_cases e:j=0
         ·subst e;exact HQ.out
         ·exact HE.out j (by omega) hj⟩
       ·exact .inl ⟨k - 1,by omega,by go_num,fun j h1 h2=>by
         by_cases e:j=k
         ·subst e;exact HQ.out
         ·exact HE.out j (by omega) h2⟩
      case measure=>first|(simp[intOf];done)|(simp[intOf];omega)
     ·have hl:=cmp_word hk hb.out ha.out hs.out.symm (fun j h1 h2=>(HE.out j h1 h2).symm) hgt
      have d1:decide (wrd a k<wrd b k)=false:=decide_eq_false (by omega)
      have d2:=decide_eq_true hgt
      have HC:Hid (cmpI a b=1):=Lib.hid (by unfold cmpI;rw[if_neg (by omega),if_pos hl])
      generalize wrd a k=u at*
      generalize wrd b k=v at*
      clear hl
      go_wp2_with fail
      go_quiet (fail)
      go_wp2_with fail
      go_quiet (fail)
      go_wp2_with fail
      go_ret
      exact⟨by rw[HC.out];rfl,below_drewN (below_drewN HA.out.below _) _⟩
    ·have HC:Hid (cmpI a b=0):=Lib.hid (by rw[cmp_same ha.out hb.out hs.out he];unfold cmpI;rw[if_neg (by omega),if_neg (by omega)])
     have HA:=Lib.hid hA
     clear he hA
     go_wp2_with fail
     go_ret
     exact⟨by rw[HC.out];rfl,HA.out.below⟩
end Go.Proofs.Ythopjhifepijiaa
