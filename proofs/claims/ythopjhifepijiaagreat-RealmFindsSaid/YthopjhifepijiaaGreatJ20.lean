/- Lemmas on the way to the statement. -/
import Derived.Test.YthopjhifepijiaaGreatJ19
set_option linter.unusedSimpArgs false
set_option linter.unusedVariables false
namespace Go.Proofs.YthopjhifepijiaaGreat
open Go.RowKit Go.Joins
noncomputable def partP (p:PL) (q:Pt):Int:=1+aroundP ((orsP p).map (ouOf fun id=>pieceR p id+1)) q 0
theorem Find_one {w:World} {B vn vc en ec:Nat} {va ea:Option Addr} {p:PL} {q:Pt} (r:RightP p) (hq:inB q=true) (hv:VsIn w B va vn p.vs) (he:EsIn w B ea en p.es) (hB:B≤w.heap.size) (hec:en≤ec) (hfit:FitPL p):
  Calls Tryz.prog 13 #[.agg #[.slice va vn vc, .slice ea en ec], .agg #[.int .i64 q.x, .int .i64 q.y]] w fun e w'=>e= .returned (plcV (findP p q (partP p q)) 0)∧Below w.heap.size w w':=by
 refine(Find_any (vc:=vc) r hq hv he hB hec hfit).mono fun e w' ⟨g,hg,hg0,he,hb⟩=>⟨?_,hb⟩
 rw[he]
 unfold partP
 rw[r.finds_agree hg0 r.pieceR_one.2 q]
theorem fndD_form (p:PL) (q:Pt): ∃x e,fndD p q=plcV x e:=by
 unfold fndD
 split
 ·exact⟨_,_,rfl⟩
 ·split
  ·exact⟨_,_,rfl⟩
  ·exact⟨_,_,rfl⟩
theorem Find_D {w:World} {B vn vc en ec:Nat} {va ea:Option Addr} {p:PL} {q:Pt} (hv:VsIn w B va vn p.vs) (he:EsIn w B ea en p.es) (hB:B≤w.heap.size) (hn:vn≤100000) (hm:en≤100000) (hec:en≤ec) (hfit:FitPL p):
  Calls Tryz.prog 13 #[.agg #[.slice va vn vc, .slice ea en ec], .agg #[.int .i64 q.x, .int .i64 q.y]] w fun e w'=>e= .returned (fndD p q)∧Below w.heap.size w w':=by
 unfold fndD
 cases hr:rightR p
 ·rw[if_pos rfl]
  exact Find_no (vc:=vc) (by rw[←rightR_eq];exact hr) hv he hB hn hm hec hfit
 ·rw[if_neg (by decide)]
  have r:=rightR_iff.1 hr
  cases hq:inB q
  ·rw[if_pos rfl]
   exact Find_out (vc:=vc) (rightB_iff.2 r) hq hv he hB hn hm hec hfit
  ·rw[if_neg (by decide)]
   refine(Find_one (vc:=vc) r hq hv he hB hec hfit).mono fun e w' ⟨h1,h2⟩=>⟨?_,h2⟩
   rw[h1]
   unfold partP
   rw[r.finds_agree r.pieceR_one.2 (fun id _=>pieceR_no id) q]
theorem eq_place7 (x:Int × Int × Int) (w:World):(binOp .eql 48 (.agg #[.int .i64 x.1, .int .i64 x.2.1, .int .i64 x.2.2]) (.agg #[.int .i64 x.1, .int .i64 x.2.1, .int .i64 x.2.2])).run Tryz.prog w= .ok (.bool true) w:=by
 simp[go_sem]
set_option maxRecDepth 100000 in
set_option maxHeartbeats 8000000 in
theorem realmFinds_walk {w:World} {B vn vc en ec:Nat} {va ea:Option Addr} {p:PL} (a:Pt) (hv:VsIn w B va vn p.vs) (he:EsIn w B ea en p.es) (hB:B≤w.heap.size) (hec:en≤ec) (hfit:FitPL p):
  Calls Tryz.prog 4 #[.agg #[.slice va vn vc, .slice ea en ec], .agg #[.int .i64 a.x, .int .i64 a.y]] w fun e w'=>e= .returned (.bool true)∧Below w.heap.size w w':=by
 have HAW:=fun W=>Lib.hid (awake17_any W)
 have HFW:=fun W=>Lib.hid (few17_any W va ea vn vc en ec)
 by_cases hf:vn≤30∧en≤30
 rotate_left
 ·rw[decide_eq_false hf] at HFW
  clear hv he hf
  go_enter Tryz.func4,Tryz.ntmps4
  go_wp2_with fail
  first|refine wp_name (fun W hW=> ?_)|refine calls_name (fun W hW=> ?_)
  have HW:Hid (Below w.heap.size w W):=Lib.hid (by rw[←hW];repeat (first|exact Below.refl _ _|refine below_alloc ?_))
  have HWs:Hid (W.heap.size=w.heap.size+1+1):=Lib.hid (by rw[←hW];simp)
  have HBW:Hid (W.heap.size≤W.heap.size):=Lib.hid (by have:=HWs.out;omega)
  have HC:=fun(W1:World) (hb:Below (W.heap.size) W W1)=>Lib.hid (show W1.cell? ⟨w.heap.size,0,none⟩=some (.slice va vn vc)∧W1.cell? ⟨w.heap.size,1,none⟩=some (.slice ea en ec)∧W1.cell? ⟨w.heap.size+1,0,none⟩=some (.int .i64 a.x)∧W1.cell? ⟨w.heap.size+1,1,none⟩=some (.int .i64 a.y) from by have hs:=HWs.out;refine⟨?_, ?_, ?_, ?_⟩<;>(refine(hb.cell (by dsimp only;omega)).trans ?_;rw[←hW];clear hW;go_simp))
  have HB:=Lib.hid (Below.refl (W.heap.size) W)
  clear hW
  have HZ:=fun(W1:World) (hb:W.heap.size≤W1.heap.size)=>Lib.hid (show w.heap.size<W1.heap.size∧w.heap.size+1<W1.heap.size from by have:=HWs.out;refine⟨?_, ?_⟩<;>omega)
  obtain⟨qx0,qx1,qx2,qx3⟩:=(HC _ HB.out).out
  obtain⟨rx0,rx1⟩:=(HZ _ HB.out.size).out
  refine((HFW _).out).mono ?_
  rintro e w1 ⟨rfl,hb2⟩
  have HB:=bnx HB HBW hb2
  clear qx0 qx1 qx2 qx3 rx0 rx1
  obtain⟨qx0,qx1,qx2,qx3⟩:=(HC _ HB.out).out
  clear hb2
  obtain⟨rx0,rx1⟩:=(HZ _ HB.out.size).out
  go_wp2_with fail
  refine((HAW _).out).mono ?_
  rintro e w2 ⟨rfl,hb3⟩
  have HB:=bnx HB HBW hb3
  clear qx0 qx1 qx2 qx3 rx0 rx1
  obtain⟨qx0,qx1,qx2,qx3⟩:=(HC _ HB.out).out
  clear hb3
  obtain⟨rx0,rx1⟩:=(HZ _ HB.out.size).out
  go_wp2_with fail
  go_ret
  exact⟨rfl,bfn HW HB⟩
 rw[decide_eq_true hf] at HFW
 have HPL:=fun W=>Lib.hid (plain17_any W va ea vn vc en ec)
 have HFA:=fun(W1:World) (hb:Below w.heap.size w W1)=>Lib.hid (Find_D (w:=W1) (vc:=vc) (q:=a) (hv.below (hb.mono hB)) (he.below (hb.mono hB)) (Nat.le_trans hB hb.size) (by omega) (by omega) hec hfit)
 have HFD:=fun(W1:World) (hb:Below w.heap.size w W1)=>Lib.hid (r17find_any (w:=W1) (vc:=vc) a (hv.below (hb.mono hB)) (he.below (hb.mono hB)) (Nat.le_trans hB hb.size) hec (by omega))
 obtain⟨x,e0,hx⟩:=fndD_form p a
 rw[hx] at HFA HFD
 unfold plcV at HFA HFD
 have eqp:=eq_place7 x
 clear hv he hf hx
 go_enter Tryz.func4,Tryz.ntmps4
 go_wp2_with fail
 first|refine wp_name (fun W hW=> ?_)|refine calls_name (fun W hW=> ?_)
 have HW:Hid (Below w.heap.size w W):=Lib.hid (by rw[←hW];repeat (first|exact Below.refl _ _|refine below_alloc ?_))
 have HWs:Hid (W.heap.size=w.heap.size+1+1):=Lib.hid (by rw[←hW];simp)
 have HBW:Hid (W.heap.size≤W.heap.size):=Lib.hid (by have:=HWs.out;omega)
 have HC:=fun(W1:World) (hb:Below (W.heap.size) W W1)=>Lib.hid (show W1.cell? ⟨w.heap.size,0,none⟩=some (.slice va vn vc)∧W1.cell? ⟨w.heap.size,1,none⟩=some (.slice ea en ec)∧W1.cell? ⟨w.heap.size+1,0,none⟩=some (.int .i64 a.x)∧W1.cell? ⟨w.heap.size+1,1,none⟩=some (.int .i64 a.y) from by have hs:=HWs.out;refine⟨?_, ?_, ?_, ?_⟩<;>(refine(hb.cell (by dsimp only;omega)).trans ?_;rw[←hW];clear hW;go_simp))
 have HB:=Lib.hid (Below.refl (W.heap.size) W)
 clear hW
 have HZ:=fun(W1:World) (hb:W.heap.size≤W1.heap.size)=>Lib.hid (show w.heap.size<W1.heap.size∧w.heap.size+1<W1.heap.size from by have:=HWs.out;refine⟨?_, ?_⟩<;>omega)
 obtain⟨qx0,qx1,qx2,qx3⟩:=(HC _ HB.out).out
 obtain⟨rx0,rx1⟩:=(HZ _ HB.out.size).out
 refine((HFW _).out).mono ?_
 rintro e w1 ⟨rfl,hb6⟩
 have HB:=bnx HB HBW hb6
 clear qx0 qx1 qx2 qx3 rx0 rx1
 obtain⟨qx0,qx1,qx2,qx3⟩:=(HC _ HB.out).out
 clear hb6
 obtain⟨rx0,rx1⟩:=(HZ _ HB.out.size).out
 go_wp2_with fail
 have HXV:=Lib.hid (HW.out.trans (HB.out.mono HW.out.size))
 clear qx0 qx1 qx2 qx3 rx0 rx1
 go_cut [5,6] (fun v9 v10 wx=> ∃g,v9= .pointer (some ⟨g,0,none⟩)∧v10= .int .i64 e0∧wx.rowIs g 44 3 (plF x)∧w1.heap.size≤g∧Below w1.heap.size w1 wx)
 case first=>
  have HY:=fun(w':World) (t:Below w1.heap.size w1 w')=>Lib.hid (show w'.cell? ⟨w.heap.size,0,none⟩=some (.slice va vn vc)∧w'.cell? ⟨w.heap.size,1,none⟩=some (.slice ea en ec)∧w'.cell? ⟨w.heap.size+1,0,none⟩=some (.int .i64 a.x)∧w'.cell? ⟨w.heap.size+1,1,none⟩=some (.int .i64 a.y) from(HC _ (HB.out.trans (t.mono HB.out.size))).out)
  have HS0:=Lib.hid (Below.refl w1.heap.size w1).drew
  refine wp_region_noPanic ?_
  refine wp_region_par3 9 9 (by kernel_rfl) (by kernel_rfl) (by simp) (by omega) (by kernel_rfl) (by kernel_rfl) (fun w':World=>Below w1.heap.size w1 w') ?_
  refine par3_read (v:= ?_) 0 (by simp only[zga,zgb,zgc];rfl) (by kernel_rfl) (by rfl) HS0.out ?_ (fun _ _ _ h=>h) ?_
  rotate_left
  ·(intro w9 hSw;obtain⟨y0,y1,y2,y3⟩:=(HY w9 hSw).out;clear hSw;go_simp;try with_reducible rfl)
  simp only[Act.put,zpa,zpb,zpc]
  refine par3_read (v:= ?_) 2 (by simp only[zga,zgb,zgc];rfl) (by kernel_rfl) (by rfl) HS0.out ?_ (fun _ _ _ h=>h) ?_
  rotate_left
  ·(intro w9 hSw;obtain⟨y0,y1,y2,y3⟩:=(HY w9 hSw).out;clear hSw;go_simp;try with_reducible rfl)
  simp only[Act.put,zpa,zpb,zpc]
  refine par3_nm (fun W0 hW0=> ?_)
  rw[←hW0] at HS0
  clear hW0
  refine par3_two 1 7 (by simp only[zga,zgb,zgc];rfl) (by simp only[zga,zgb,zgc];rfl) (by kernel_rfl) (by rfl) (by rfl) ?_ ?_
  ·refine owp_call (by go_simp;constructor<;>rfl) ?_
   refine(HPL _).out.mono ?_
   rintro z W1 ⟨rfl,hb9⟩
   have HS1:=Lib.hid (below_next HS0.out HS0.out.size hb9)
   refine⟨_,rfl,fun s _=>HS1.out, ?_⟩
   simp only[Act.put,zpa,zpb,zpc]
   clear hb9
   refine par3_two 3 7 (by simp only[zga,zgb,zgc];rfl) (by simp only[zga,zgb,zgc];rfl) (by kernel_rfl) (by rfl) (by rfl) ?_ ?_
   ·refine owp_call (by go_simp;constructor<;>rfl) ?_
    refine(HFA _ (HXV.out.trans (HS1.out.mono HXV.out.size))).out.mono ?_
    rintro z W3 ⟨rfl,hb9⟩
    have HS3:=Lib.hid (below_next HS1.out HS1.out.size hb9)
    refine⟨_,rfl,fun s _=>HS3.out, ?_⟩
    simp only[Act.put,zpa,zpb,zpc]
    refine par3_move (v:= ?_) 4 (by simp only[zga,zgb,zgc];rfl) (by kernel_rfl) (by rfl) ?_ (fun _ _ _ h=>h) ?_
    rotate_left
    ·(intro w9;go_simp;try with_reducible rfl)
    simp only[Act.put,zpa,zpb,zpc]
    refine par3_move (v:= ?_) 5 (by simp only[zga,zgb,zgc];rfl) (by kernel_rfl) (by rfl) ?_ (fun _ _ _ h=>h) ?_
    rotate_left
    ·(intro w9;go_simp;try with_reducible rfl)
    simp only[Act.put,zpa,zpb,zpc]
    refine par3_move (v:= ?_) 6 (by simp only[zga,zgb,zgc];rfl) (by kernel_rfl) (by rfl) ?_ (fun _ _ _ h=>h) ?_
    rotate_left
    ·(intro w9;go_simp;try with_reducible rfl)
    simp only[Act.put,zpa,zpb,zpc]
    clear hb9
    refine par3_one 7 (by simp only[zga,zgb,zgc];rfl) (by kernel_rfl) (by rfl) ?_
    refine owp_val (v:= ?_) (w1:= ?_) ?_ ?_
    rotate_left 2
    ·(go_simp;constructor<;>rfl)
    refine⟨fun s _=>s.alloc s.size _, ?_⟩
    simp only[Act.put,zpa,zpb,zpc]
    have HRA:=Lib.hid (show(W3.alloc (.cells #[.int .i64 0, .int .i64 0, .int .i64 0] 44)).rowIs W3.heap.size 44 3 (plF (0,0,0)) from World.rowIs_alloc W3 #[.int .i64 0, .int .i64 0, .int .i64 0] 44 (plF (0,0,0)) (fun i hi=>by rcases i with _|_|_|i<;>first|rfl|(simp at hi;omega)))
    have HSA:=Lib.hid (HS3.out.alloc HS3.out.size (.cells #[.int .i64 0, .int .i64 0, .int .i64 0] 44))
    refine par3_nm (fun WA hW9=> ?_)
    rw[←hW9] at HRA HSA
    clear hW9
    obtain⟨g1,hg1⟩: ∃g,g=W3.heap.size:=⟨_,rfl⟩
    have hl1:w1.heap.size≤g1:=by rw[hg1];exact HS3.out.size
    rw[←hg1] at HRA ⊢
    clear hg1
    have f0:=World.rowIs.frozen HRA.out 0
    have f1:=World.rowIs.frozen HRA.out 1
    have f2:=World.rowIs.frozen HRA.out 2
    have p0:=World.rowIs.cell HRA.out (i:=0) (by decide)
    have p1:=World.rowIs.cell HRA.out (i:=1) (by decide)
    have p2:=World.rowIs.cell HRA.out (i:=2) (by decide)
    refine par3_one 8 (by simp only[zga,zgb,zgc];rfl) (by kernel_rfl) (by rfl) ?_
    refine owp_skip (w1:= ?_) ?_ ?_
    rotate_left
    ·(go_simp;first|rfl|(constructor<;>rfl))
    refine⟨fun s _=>((s.setCell hl1 _).setCell hl1 _).setCell hl1 _, ?_⟩
    simp only[Act.put,zpa,zpb,zpc]
    clear f0 f1 f2 p0 p1 p2
    refine par3_tail _ (by simp only[List.drop_succ_cons,List.drop_zero];rfl) (by kernel_rfl) ?_
    go_wp2_with fail
    refine NoPanic.normal ?_
    go_step
    first|go_meet|(go_step;go_meet)
    refine⟨g1,rfl,rfl,World.rowIs.congr (World.rowIs.set (World.rowIs.set (World.rowIs.set HRA.out 0 _) 1 _) 2 _) (fun i hi=>by rcases i with _|_|_|i<;>first|rfl|exact absurd hi (by omega)),hl1,((HSA.out.setCell hl1 _).setCell hl1 _).setCell hl1 _⟩
   ·refine owp_val (v:= ?_) (w1:= ?_) ?_ ?_
    rotate_left 2
    ·(go_simp;constructor<;>rfl)
    refine⟨fun s _=>s.alloc s.size _, ?_⟩
    simp only[Act.put,zpa,zpb,zpc]
    have HRA:=Lib.hid (show(W1.alloc (.cells #[.int .i64 0, .int .i64 0, .int .i64 0] 44)).rowIs W1.heap.size 44 3 (plF (0,0,0)) from World.rowIs_alloc W1 #[.int .i64 0, .int .i64 0, .int .i64 0] 44 (plF (0,0,0)) (fun i hi=>by rcases i with _|_|_|i<;>first|rfl|(simp at hi;omega)))
    have HSA:=Lib.hid (HS1.out.alloc HS1.out.size (.cells #[.int .i64 0, .int .i64 0, .int .i64 0] 44))
    refine par3_nm (fun WA hW9=> ?_)
    rw[←hW9] at HRA HSA
    clear hW9
    refine par3_one 3 (by simp only[zga,zgb,zgc];rfl) (by kernel_rfl) (by rfl) ?_
    refine owp_call (by go_simp;constructor<;>rfl) ?_
    refine(HFA _ (HXV.out.trans (HSA.out.mono HXV.out.size))).out.mono ?_
    rintro z W3 ⟨rfl,hb9⟩
    have HS3:=Lib.hid (below_next HSA.out HSA.out.size hb9)
    refine⟨_,rfl,fun s _=>HS3.out, ?_⟩
    simp only[Act.put,zpa,zpb,zpc]
    refine par3_move (v:= ?_) 4 (by simp only[zga,zgb,zgc];rfl) (by kernel_rfl) (by rfl) ?_ (fun _ _ _ h=>h) ?_
    rotate_left
    ·(intro w9;go_simp;try with_reducible rfl)
    simp only[Act.put,zpa,zpb,zpc]
    refine par3_move (v:= ?_) 5 (by simp only[zga,zgb,zgc];rfl) (by kernel_rfl) (by rfl) ?_ (fun _ _ _ h=>h) ?_
    rotate_left
    ·(intro w9;go_simp;try with_reducible rfl)
    simp only[Act.put,zpa,zpb,zpc]
    refine par3_move (v:= ?_) 6 (by simp only[zga,zgb,zgc];rfl) (by kernel_rfl) (by rfl) ?_ (fun _ _ _ h=>h) ?_
    rotate_left
    ·(intro w9;go_simp;try with_reducible rfl)
    simp only[Act.put,zpa,zpb,zpc]
    have HRB:=Lib.hid (rowIs_touch HRA.out (Touch.of_below (F:=[]) hb9) (by simp))
    clear hb9
    obtain⟨g1,hg1⟩: ∃g,g=W1.heap.size:=⟨_,rfl⟩
    have hl1:w1.heap.size≤g1:=by rw[hg1];exact HS1.out.size
    rw[←hg1] at HRB ⊢
    clear hg1
    have f0:=World.rowIs.frozen HRB.out 0
    have f1:=World.rowIs.frozen HRB.out 1
    have f2:=World.rowIs.frozen HRB.out 2
    have p0:=World.rowIs.cell HRB.out (i:=0) (by decide)
    have p1:=World.rowIs.cell HRB.out (i:=1) (by decide)
    have p2:=World.rowIs.cell HRB.out (i:=2) (by decide)
    refine par3_one 8 (by simp only[zga,zgb,zgc];rfl) (by kernel_rfl) (by rfl) ?_
    refine owp_skip (w1:= ?_) ?_ ?_
    rotate_left
    ·(go_simp;first|rfl|(constructor<;>rfl))
    refine⟨fun s _=>((s.setCell hl1 _).setCell hl1 _).setCell hl1 _, ?_⟩
    simp only[Act.put,zpa,zpb,zpc]
    clear f0 f1 f2 p0 p1 p2
    refine par3_tail _ (by simp only[List.drop_succ_cons,List.drop_zero];rfl) (by kernel_rfl) ?_
    go_wp2_with fail
    refine NoPanic.normal ?_
    go_step
    first|go_meet|(go_step;go_meet)
    refine⟨g1,rfl,rfl,World.rowIs.congr (World.rowIs.set (World.rowIs.set (World.rowIs.set HRB.out 0 _) 1 _) 2 _) (fun i hi=>by rcases i with _|_|_|i<;>first|rfl|exact absurd hi (by omega)),hl1,((HS3.out.setCell hl1 _).setCell hl1 _).setCell hl1 _⟩
  ·refine owp_val (v:= ?_) (w1:= ?_) ?_ ?_
   rotate_left 2
   ·(go_simp;constructor<;>rfl)
   refine⟨fun s _=>s.alloc s.size _, ?_⟩
   simp only[Act.put,zpa,zpb,zpc]
   have HRA:=Lib.hid (show(W0.alloc (.cells #[.int .i64 0, .int .i64 0, .int .i64 0] 44)).rowIs W0.heap.size 44 3 (plF (0,0,0)) from World.rowIs_alloc W0 #[.int .i64 0, .int .i64 0, .int .i64 0] 44 (plF (0,0,0)) (fun i hi=>by rcases i with _|_|_|i<;>first|rfl|(simp at hi;omega)))
   have HSA:=Lib.hid (HS0.out.alloc HS0.out.size (.cells #[.int .i64 0, .int .i64 0, .int .i64 0] 44))
   refine par3_nm (fun WA hW9=> ?_)
   rw[←hW9] at HRA HSA
   clear hW9
   refine par3_one 1 (by simp only[zga,zgb,zgc];rfl) (by kernel_rfl) (by rfl) ?_
   refine owp_call (by go_simp;constructor<;>rfl) ?_
   refine(HPL _).out.mono ?_
   rintro z W1 ⟨rfl,hb9⟩
   have HS1:=Lib.hid (below_next HSA.out HSA.out.size hb9)
   refine⟨_,rfl,fun s _=>HS1.out, ?_⟩
   simp only[Act.put,zpa,zpb,zpc]
   have HRB:=Lib.hid (rowIs_touch HRA.out (Touch.of_below (F:=[]) hb9) (by simp))
   clear hb9
   refine par3_one 3 (by simp only[zga,zgb,zgc];rfl) (by kernel_rfl) (by rfl) ?_
   refine owp_call (by go_simp;constructor<;>rfl) ?_
   refine(HFA _ (HXV.out.trans (HS1.out.mono HXV.out.size))).out.mono ?_
   rintro z W3 ⟨rfl,hb9⟩
   have HS3:=Lib.hid (below_next HS1.out HS1.out.size hb9)
   refine⟨_,rfl,fun s _=>HS3.out, ?_⟩
   simp only[Act.put,zpa,zpb,zpc]
   refine par3_move (v:= ?_) 4 (by simp only[zga,zgb,zgc];rfl) (by kernel_rfl) (by rfl) ?_ (fun _ _ _ h=>h) ?_
   rotate_left
   ·(intro w9;go_simp;try with_reducible rfl)
   simp only[Act.put,zpa,zpb,zpc]
   refine par3_move (v:= ?_) 5 (by simp only[zga,zgb,zgc];rfl) (by kernel_rfl) (by rfl) ?_ (fun _ _ _ h=>h) ?_
   rotate_left
   ·(intro w9;go_simp;try with_reducible rfl)
   simp only[Act.put,zpa,zpb,zpc]
   refine par3_move (v:= ?_) 6 (by simp only[zga,zgb,zgc];rfl) (by kernel_rfl) (by rfl) ?_ (fun _ _ _ h=>h) ?_
   rotate_left
   ·(intro w9;go_simp;try with_reducible rfl)
   simp only[Act.put,zpa,zpb,zpc]
   have HRC:=Lib.hid (rowIs_touch HRB.out (Touch.of_below (F:=[]) hb9) (by simp))
   clear hb9
   obtain⟨g1,hg1⟩: ∃g,g=W0.heap.size:=⟨_,rfl⟩
   have hl1:w1.heap.size≤g1:=by rw[hg1];exact HS0.out.size
   rw[←hg1] at HRC ⊢
   clear hg1
   have f0:=World.rowIs.frozen HRC.out 0
   have f1:=World.rowIs.frozen HRC.out 1
   have f2:=World.rowIs.frozen HRC.out 2
   have p0:=World.rowIs.cell HRC.out (i:=0) (by decide)
   have p1:=World.rowIs.cell HRC.out (i:=1) (by decide)
   have p2:=World.rowIs.cell HRC.out (i:=2) (by decide)
   refine par3_one 8 (by simp only[zga,zgb,zgc];rfl) (by kernel_rfl) (by rfl) ?_
   refine owp_skip (w1:= ?_) ?_ ?_
   rotate_left
   ·(go_simp;first|rfl|(constructor<;>rfl))
   refine⟨fun s _=>((s.setCell hl1 _).setCell hl1 _).setCell hl1 _, ?_⟩
   simp only[Act.put,zpa,zpb,zpc]
   clear f0 f1 f2 p0 p1 p2
   refine par3_tail _ (by simp only[List.drop_succ_cons,List.drop_zero];rfl) (by kernel_rfl) ?_
   go_wp2_with fail
   refine NoPanic.normal ?_
   go_step
   first|go_meet|(go_step;go_meet)
   refine⟨g1,rfl,rfl,World.rowIs.congr (World.rowIs.set (World.rowIs.set (World.rowIs.set HRC.out 0 _) 1 _) 2 _) (fun i hi=>by rcases i with _|_|_|i<;>first|rfl|exact absurd hi (by omega)),hl1,((HS3.out.setCell hl1 _).setCell hl1 _).setCell hl1 _⟩
 case rest=>
 obtain⟨g,rfl,rfl,hr1,hg1,hb1⟩:=hcut
 have HR1:=Lib.hid hr1
 have HB:=Lib.hid (HB.out.trans (hb1.mono HB.out.size))
 have HXV:=Lib.hid (HW.out.trans (HB.out.mono HW.out.size))
 clear hr1 hg1 hb1
 obtain⟨qx0,qx1,qx2,qx3⟩:=(HC _ HB.out).out
 obtain⟨rx0,rx1⟩:=(HZ _ HB.out.size).out
 go_wp2_with fail
 refine(HFD _ HXV.out).out.mono ?_
 rintro e w5 ⟨rfl,hb5⟩
 have HR1:=Lib.hid (rowIs_touch HR1.out (Touch.of_below (F:=[]) hb5) (by simp))
 have HB:=Lib.hid (below_next HB.out (Nat.le_trans HBW.out HB.out.size) hb5)
 have HXV:=Lib.hid (below_step hb5 HXV.out)
 clear hb5
 go_wp2_with fail
 first|refine wp_name (fun W2 hW2=> ?_)|refine calls_name (fun W2 hW2=> ?_)
 have HW2:Hid (Below w5.heap.size w5 W2):=Lib.hid (by rw[←hW2];repeat (first|exact Below.refl _ _|refine below_alloc ?_))
 have HWs2:Hid (W2.heap.size=w5.heap.size+1):=Lib.hid (by rw[←hW2];simp)
 have HBW2:Hid (W2.heap.size≤W2.heap.size):=Lib.hid (by have:=HWs2.out;omega)
 have HC2:=fun(W1:World) (hb:Below (W2.heap.size) W2 W1)=>Lib.hid (show W1.cell? ⟨w.heap.size,0,none⟩=some (.slice va vn vc)∧W1.cell? ⟨w.heap.size,1,none⟩=some (.slice ea en ec)∧W1.cell? ⟨w.heap.size+1,0,none⟩=some (.int .i64 a.x)∧W1.cell? ⟨w.heap.size+1,1,none⟩=some (.int .i64 a.y)∧W1.cell? ⟨w5.heap.size,0,none⟩=some (.int .i64 x.1)∧W1.cell? ⟨w5.heap.size,1,none⟩=some (.int .i64 x.2.1)∧W1.cell? ⟨w5.heap.size,2,none⟩=some (.int .i64 x.2.2) from by have ho:=(HC W1 (in_of HB.out HW2.out hb (Nat.le_trans HBW.out HB.out.size) (by have h1:=HBW.out;have h2:=HB.out.size;have h3:=HW2.out.size;have h4:=HWs2.out;omega))).out;have hs:=HWs2.out;have z1:=HWs.out;have z2:=HB.out.size;refine⟨ho.1,ho.2.1,ho.2.2.1,ho.2.2.2, ?_, ?_, ?_⟩<;>(refine(hb.cell (by dsimp only;omega)).trans ?_;rw[←hW2];clear hW2;go_simp))
 have HB2:=Lib.hid (Below.refl (W2.heap.size) W2)
 clear hW2
 have HZ2:=fun(W1:World) (hb:W2.heap.size≤W1.heap.size)=>Lib.hid (show w.heap.size<W1.heap.size∧w.heap.size+1<W1.heap.size∧w5.heap.size<W1.heap.size from by obtain⟨o0,o1⟩:=(HZ _ HB.out.size).out;have h3:=HW2.out.size;have:=HWs2.out;refine⟨?_, ?_, ?_⟩<;>omega)
 clear qx0 qx1 qx2 qx3 rx0 rx1
 obtain⟨qx0,qx1,qx2,qx3,qx4,qx5,qx6⟩:=(HC2 _ HB2.out).out
 obtain⟨rx0,rx1,rx2⟩:=(HZ2 _ HB2.out.size).out
 have HR1:=Lib.hid (rowIs_touch HR1.out (Touch.of_below (F:=[]) HW2.out) (by simp))
 refine(HAW _).out.mono ?_
 rintro e w6 ⟨rfl,hb6⟩
 have HR1:=rowIs_touch HR1.out (Touch.of_below (F:=[]) hb6) (by simp)
 have HXV:=Lib.hid (below_step hb6 (below_step HW2.out HXV.out))
 obtain⟨v0,v1,v2⟩:=(HC2 _ hb6).out
 have u0:w6.cell? ⟨g,0,none⟩=some (.int .i64 x.1):=World.rowIs.cell HR1 (i:=0) (by decide)
 have u1:w6.cell? ⟨g,1,none⟩=some (.int .i64 x.2.1):=World.rowIs.cell HR1 (i:=1) (by decide)
 have u2:w6.cell? ⟨g,2,none⟩=some (.int .i64 x.2.2):=World.rowIs.cell HR1 (i:=2) (by decide)
 clear hb6 HR1
 go_wp2_with fail
 go_ret
 exact⟨rfl,HXV.out⟩
end Go.Proofs.YthopjhifepijiaaGreat
