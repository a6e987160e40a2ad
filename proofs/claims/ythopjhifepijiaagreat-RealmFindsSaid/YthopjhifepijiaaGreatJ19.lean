/- Lemmas on the way to the statement. -/
import Derived.Test.YthopjhifepijiaaGreatJ18
set_option linter.unusedSimpArgs false
set_option linter.unusedVariables false
namespace Go.Proofs.YthopjhifepijiaaGreat
open Go.RowKit Go.Joins
theorem Tryz.results14:Tryz.f14.results= #[.cell 4 48, .tmp 5]:=by kernel_rfl
theorem res_place7 {fn:Func} {p u:Tmp} {tmps:Array Value} {W:World} {g:Nat} {x:Int × Int × Int} (h:fn.results= #[.cell p 48, .tmp u]) (hp:tmps.getD p undef= .pointer (some ⟨g,0,none⟩)) (hr:W.rowIs g 48 3 (plF x)):
  (results fn tmps).run Tryz.prog W= .ok (.tuple #[.agg #[.int .i64 x.1, .int .i64 x.2.1, .int .i64 x.2.2],tmps.getD u undef]) W:=by
 obtain⟨c,hc,hs,hi⟩:=hr
 have hcs:c= #[.int .i64 x.1, .int .i64 x.2.1, .int .i64 x.2.2]:=by
  apply Array.ext_getElem?
  intro i
  by_cases hlt:i<3
  ·rw[hi i hlt]
   rcases i with _|_|_|i<;>first|rfl|(exfalso;omega)
  ·rw[Array.getElem?_eq_none (by omega),Array.getElem?_eq_none (by simp;omega)]
 subst hcs
 rw[results_cell_tmp h]
 have hl:=run_loadVar_row (P:=Tryz.prog) W g _ 48 _ _ _ hc Tryz.underlying48 rfl (by kernel_rfl)
 simp only[hp,asAddr,Sem.run_pure,Result.andThen_ok,hl]
noncomputable def fndD (p:PL) (q:Pt):Value:=if rightR p=false then plcV (0,0,0) 1 else if inB q=false then plcV (0,0,0) 5 else plcV (findP p q (1+aroundP ((orsP p).map (ouOf (pieceR p))) q (-1))) 0
set_option maxRecDepth 100000 in
set_option maxHeartbeats 16000000 in
theorem r17find_any {w:World} {B vn vc en ec:Nat} {va ea:Option Addr} {p:PL} (q:Pt) (hv:VsIn w B va vn p.vs) (he:EsIn w B ea en p.es) (hB:B≤w.heap.size) (hec:en≤ec) (hfew:en≤100):
  Calls Tryz.prog 14 #[.agg #[.slice va vn vc, .slice ea en ec], .agg #[.int .i64 q.x, .int .i64 q.y]] w fun e w'=>e= .returned (fndD p q)∧Below w.heap.size w w':=by
 have HRT:=fun(W:World) (hb:Below w.heap.size w W)=>Lib.hid (r15right_any (w:=W) (vc:=vc) (hv.below (hb.mono hB)) (he.below (hb.mono hB)) (Nat.le_trans hB hb.size) hec)
 have HIN:=fun W=>Lib.hid (r5in_any q W)
 obtain⟨v0,hv0⟩: ∃v,v=fndD p q:=⟨_,rfl⟩
 rw[←hv0]
 cases hrr:rightR p
 ·have F:=Lib.hid (show v0=plcV (0,0,0) 1 from by rw[hv0];unfold fndD;rw[hrr,if_pos rfl])
  rw[hrr] at HRT
  clear hv he hrr hv0
  go_enter Tryz.func14,Tryz.ntmps14
  go_wp2_with fail
  first|refine wp_name (fun W hW=> ?_)|refine calls_name (fun W hW=> ?_)
  have HW:Hid (Below w.heap.size w W):=Lib.hid (by rw[←hW];repeat (first|exact Below.refl _ _|refine below_alloc ?_))
  have HWs:Hid (W.heap.size=w.heap.size+1+1+1):=Lib.hid (by rw[←hW];simp)
  have HBW:Hid (W.heap.size≤W.heap.size):=Lib.hid (by have:=HWs.out;omega)
  have HC:=fun(W1:World) (hb:Below (W.heap.size) W W1)=>Lib.hid (show W1.cell? ⟨w.heap.size,0,none⟩=some (.slice va vn vc)∧W1.cell? ⟨w.heap.size,1,none⟩=some (.slice ea en ec)∧W1.cell? ⟨w.heap.size+1,0,none⟩=some (.int .i64 q.x)∧W1.cell? ⟨w.heap.size+1,1,none⟩=some (.int .i64 q.y)∧W1.cell? ⟨w.heap.size+1+1,0,none⟩=some (.int .i64 0)∧W1.cell? ⟨w.heap.size+1+1,1,none⟩=some (.int .i64 0)∧W1.cell? ⟨w.heap.size+1+1,2,none⟩=some (.int .i64 0) from by have hs:=HWs.out;refine⟨?_, ?_, ?_, ?_, ?_, ?_, ?_⟩<;>(refine(hb.cell (by dsimp only;omega)).trans ?_;rw[←hW];clear hW;go_simp))
  have HB:=Lib.hid (Below.refl (W.heap.size) W)
  have HZ:=fun(W1:World) (hb:W.heap.size≤W1.heap.size)=>Lib.hid (show w.heap.size<W1.heap.size∧w.heap.size+1<W1.heap.size∧w.heap.size+1+1<W1.heap.size from by have:=HWs.out;refine⟨?_, ?_, ?_⟩<;>omega)
  obtain⟨qx0,qx1,qx2,qx3,qx4,qx5,qx6⟩:=(HC _ HB.out).out
  obtain⟨rx0,rx1,rx2⟩:=(HZ _ HB.out.size).out
  have HP0:=Lib.hid (show W.rowIs (w.heap.size+1+1) 48 3 (plF (0,0,0)) from by
   have:=World.rowIs_alloc ((w.alloc (.cells #[.slice va vn vc, .slice ea en ec] 25)).alloc (.cells #[.int .i64 q.x, .int .i64 q.y] 42)) #[.int .i64 0, .int .i64 0, .int .i64 0] 48 (plF (0,0,0)) (fun i hi=>by rcases i with _|_|_|i<;>first|rfl|(simp at hi;omega))
   rw[hW] at this
   simpa using this)
  clear hW
  refine((HRT _ HW.out).out).mono ?_
  rintro e w1 ⟨rfl,hb2⟩
  have HB:=bnx HB HBW hb2
  clear qx0 qx1 qx2 qx3 qx4 qx5 qx6 rx0 rx1 rx2
  obtain⟨qx0,qx1,qx2,qx3,qx4,qx5,qx6⟩:=(HC _ HB.out).out
  clear hb2
  obtain⟨rx0,rx1,rx2⟩:=(HZ _ HB.out.size).out
  have HP1:=Lib.hid (rowIs_touch HP0.out (Touch.of_below (F:=[]) HB.out) (by simp))
  have f0:=fun i=>World.rowIs.frozen HP1.out i
  have hlp:=World.rowIs.lt HP1.out
  go_wp2_with fail
  refine bodyPost_ret_by (res_place7 (x:=((0:Int),(0:Int),(0:Int))) Tryz.results14 rfl (World.rowIs.congr (World.rowIs.set (World.rowIs.set (World.rowIs.set HP1.out 0 _) 1 _) 2 _) (fun i hi=>by rcases i with _|_|_|i<;>first|rfl|exact absurd hi (by omega)))) rfl ?_
  exact⟨by rw[F.out];rfl,(((HW.out.trans (HB.out.mono HW.out.size)).setCell (p:=⟨w.heap.size+1+1,0,none⟩) (by show _≤w.heap.size+1+1;omega) _).setCell (p:=⟨w.heap.size+1+1,1,none⟩) (by show _≤w.heap.size+1+1;omega) _).setCell (p:=⟨w.heap.size+1+1,2,none⟩) (by show _≤w.heap.size+1+1;omega) _⟩
 cases hin:inB q
 ·have F:=Lib.hid (show v0=plcV (0,0,0) 5 from by rw[hv0];unfold fndD;rw[hrr,hin,if_neg (by decide),if_pos rfl])
  rw[hrr] at HRT
  rw[hin] at HIN
  clear hv he hrr hin hv0
  go_enter Tryz.func14,Tryz.ntmps14
  go_wp2_with fail
  first|refine wp_name (fun W hW=> ?_)|refine calls_name (fun W hW=> ?_)
  have HW:Hid (Below w.heap.size w W):=Lib.hid (by rw[←hW];repeat (first|exact Below.refl _ _|refine below_alloc ?_))
  have HWs:Hid (W.heap.size=w.heap.size+1+1+1):=Lib.hid (by rw[←hW];simp)
  have HBW:Hid (W.heap.size≤W.heap.size):=Lib.hid (by have:=HWs.out;omega)
  have HC:=fun(W1:World) (hb:Below (W.heap.size) W W1)=>Lib.hid (show W1.cell? ⟨w.heap.size,0,none⟩=some (.slice va vn vc)∧W1.cell? ⟨w.heap.size,1,none⟩=some (.slice ea en ec)∧W1.cell? ⟨w.heap.size+1,0,none⟩=some (.int .i64 q.x)∧W1.cell? ⟨w.heap.size+1,1,none⟩=some (.int .i64 q.y)∧W1.cell? ⟨w.heap.size+1+1,0,none⟩=some (.int .i64 0)∧W1.cell? ⟨w.heap.size+1+1,1,none⟩=some (.int .i64 0)∧W1.cell? ⟨w.heap.size+1+1,2,none⟩=some (.int .i64 0) from by have hs:=HWs.out;refine⟨?_, ?_, ?_, ?_, ?_, ?_, ?_⟩<;>(refine(hb.cell (by dsimp only;omega)).trans ?_;rw[←hW];clear hW;go_simp))
  have HB:=Lib.hid (Below.refl (W.heap.size) W)
  have HZ:=fun(W1:World) (hb:W.heap.size≤W1.heap.size)=>Lib.hid (show w.heap.size<W1.heap.size∧w.heap.size+1<W1.heap.size∧w.heap.size+1+1<W1.heap.size from by have:=HWs.out;refine⟨?_, ?_, ?_⟩<;>omega)
  obtain⟨qx0,qx1,qx2,qx3,qx4,qx5,qx6⟩:=(HC _ HB.out).out
  obtain⟨rx0,rx1,rx2⟩:=(HZ _ HB.out.size).out
  have HP0:=Lib.hid (show W.rowIs (w.heap.size+1+1) 48 3 (plF (0,0,0)) from by
   have:=World.rowIs_alloc ((w.alloc (.cells #[.slice va vn vc, .slice ea en ec] 25)).alloc (.cells #[.int .i64 q.x, .int .i64 q.y] 42)) #[.int .i64 0, .int .i64 0, .int .i64 0] 48 (plF (0,0,0)) (fun i hi=>by rcases i with _|_|_|i<;>first|rfl|(simp at hi;omega))
   rw[hW] at this
   simpa using this)
  clear hW
  refine((HRT _ HW.out).out).mono ?_
  rintro e w1 ⟨rfl,hb4⟩
  have HB:=bnx HB HBW hb4
  clear qx0 qx1 qx2 qx3 qx4 qx5 qx6 rx0 rx1 rx2
  obtain⟨qx0,qx1,qx2,qx3,qx4,qx5,qx6⟩:=(HC _ HB.out).out
  clear hb4
  obtain⟨rx0,rx1,rx2⟩:=(HZ _ HB.out.size).out
  go_wp2_with fail
  refine((HIN _).out).mono ?_
  rintro e w2 ⟨rfl,hb5⟩
  have HB:=bnx HB HBW hb5
  clear qx0 qx1 qx2 qx3 qx4 qx5 qx6 rx0 rx1 rx2
  obtain⟨qx0,qx1,qx2,qx3,qx4,qx5,qx6⟩:=(HC _ HB.out).out
  clear hb5
  obtain⟨rx0,rx1,rx2⟩:=(HZ _ HB.out.size).out
  have HP1:=Lib.hid (rowIs_touch HP0.out (Touch.of_below (F:=[]) HB.out) (by simp))
  have f0:=fun i=>World.rowIs.frozen HP1.out i
  have hlp:=World.rowIs.lt HP1.out
  go_wp2_with fail
  refine bodyPost_ret_by (res_place7 (x:=((0:Int),(0:Int),(0:Int))) Tryz.results14 rfl (World.rowIs.congr (World.rowIs.set (World.rowIs.set (World.rowIs.set HP1.out 0 _) 1 _) 2 _) (fun i hi=>by rcases i with _|_|_|i<;>first|rfl|exact absurd hi (by omega)))) rfl ?_
  exact⟨by rw[F.out];rfl,(((HW.out.trans (HB.out.mono HW.out.size)).setCell (p:=⟨w.heap.size+1+1,0,none⟩) (by show _≤w.heap.size+1+1;omega) _).setCell (p:=⟨w.heap.size+1+1,1,none⟩) (by show _≤w.heap.size+1+1;omega) _).setCell (p:=⟨w.heap.size+1+1,2,none⟩) (by show _≤w.heap.size+1+1;omega) _⟩
 have HRP:=Lib.hid (rightR_iff.1 hrr)
 have HQ:=Lib.hid hin
 obtain⟨N,hN⟩: ∃N,N=1+aroundP ((orsP p).map (ouOf (pieceR p))) q (-1):=⟨_,rfl⟩
 have HV0:=Lib.hid (show v0=plcV (findP p q N) 0 from by rw[hv0,hN];unfold fndD;rw[hrr,hin,if_neg (by decide),if_neg (by decide)])
 rw[hrr] at HRT
 rw[hin] at HIN
 have HV:=Lib.hid hv
 have HE:=Lib.hid he
 have HL:=Lib.hid hv.1
 have HM:=Lib.hid he.1
 have HNN:=Lib.hid hN
 have hvn:vn≤512:=by have:=HRP.out.nv;have:=hv.1;omega
 clear hv he hrr hin hv0 hN
 go_enter Tryz.func14,Tryz.ntmps14
 go_wp2_with fail
 first|refine wp_name (fun W hW=> ?_)|refine calls_name (fun W hW=> ?_)
 have HW:Hid (Below w.heap.size w W):=Lib.hid (by rw[←hW];repeat (first|exact Below.refl _ _|refine below_alloc ?_))
 have HWs:Hid (W.heap.size=w.heap.size+1+1+1):=Lib.hid (by rw[←hW];simp)
 have HBW:Hid (W.heap.size≤W.heap.size):=Lib.hid (by have:=HWs.out;omega)
 have HC:=fun(W1:World) (hb:Below (W.heap.size) W W1)=>Lib.hid (show W1.cell? ⟨w.heap.size,0,none⟩=some (.slice va vn vc)∧W1.cell? ⟨w.heap.size,1,none⟩=some (.slice ea en ec)∧W1.cell? ⟨w.heap.size+1,0,none⟩=some (.int .i64 q.x)∧W1.cell? ⟨w.heap.size+1,1,none⟩=some (.int .i64 q.y)∧W1.cell? ⟨w.heap.size+1+1,0,none⟩=some (.int .i64 0)∧W1.cell? ⟨w.heap.size+1+1,1,none⟩=some (.int .i64 0)∧W1.cell? ⟨w.heap.size+1+1,2,none⟩=some (.int .i64 0) from by have hs:=HWs.out;refine⟨?_, ?_, ?_, ?_, ?_, ?_, ?_⟩<;>(refine(hb.cell (by dsimp only;omega)).trans ?_;rw[←hW];clear hW;go_simp))
 have HB:=Lib.hid (Below.refl (W.heap.size) W)
 have HZ:=fun(W1:World) (hb:W.heap.size≤W1.heap.size)=>Lib.hid (show w.heap.size<W1.heap.size∧w.heap.size+1<W1.heap.size∧w.heap.size+1+1<W1.heap.size from by have:=HWs.out;refine⟨?_, ?_, ?_⟩<;>omega)
 obtain⟨qx0,qx1,qx2,qx3,qx4,qx5,qx6⟩:=(HC _ HB.out).out
 obtain⟨rx0,rx1,rx2⟩:=(HZ _ HB.out.size).out
 have HP0:=Lib.hid (show W.rowIs (w.heap.size+1+1) 48 3 (plF (0,0,0)) from by
  have:=World.rowIs_alloc ((w.alloc (.cells #[.slice va vn vc, .slice ea en ec] 25)).alloc (.cells #[.int .i64 q.x, .int .i64 q.y] 42)) #[.int .i64 0, .int .i64 0, .int .i64 0] 48 (plF (0,0,0)) (fun i hi=>by rcases i with _|_|_|i<;>first|rfl|(simp at hi;omega))
  rw[hW] at this
  simpa using this)
 clear hW
 refine((HRT _ HW.out).out).mono ?_
 rintro e w1 ⟨rfl,hb7⟩
 have HB:=bnx HB HBW hb7
 clear qx0 qx1 qx2 qx3 qx4 qx5 qx6 rx0 rx1 rx2
 obtain⟨qx0,qx1,qx2,qx3,qx4,qx5,qx6⟩:=(HC _ HB.out).out
 clear hb7
 obtain⟨rx0,rx1,rx2⟩:=(HZ _ HB.out.size).out
 go_wp2_with fail
 refine((HIN _).out).mono ?_
 rintro e w2 ⟨rfl,hb8⟩
 have HB:=bnx HB HBW hb8
 clear qx0 qx1 qx2 qx3 qx4 qx5 qx6 rx0 rx1 rx2
 obtain⟨qx0,qx1,qx2,qx3,qx4,qx5,qx6⟩:=(HC _ HB.out).out
 clear hb8
 obtain⟨rx0,rx1,rx2⟩:=(HZ _ HB.out.size).out
 go_wp2_with fail
 clear qx0 qx1 qx2 qx3 qx4 qx5 qx6 rx0 rx1 rx2
 go_loopw [6] (fun v wr=> ∃k:Nat,k≤vn∧v= .int .i64 k∧(∀y∈p.vs.take k,decide (y.at_=q)=false)∧Below W.heap.size W wr) (fun v _=>vn - (intOf v).toNat)
 case atStart=>exact⟨0,Nat.zero_le _,rfl,fun y hy=>by simp at hy,HB.out⟩
 case round=>
  clear HB
  obtain⟨k,hk,rfl,hall,hb⟩:=hrel
  obtain⟨wq,rfl⟩: ∃x:World,x=wr:=⟨_,rfl⟩
  have HB:=Lib.hid hb
  have HX:=Lib.hid (HW.out.trans (hb.mono HW.out.size))
  have HA:=Lib.hid hall
  clear hb hall
  obtain⟨qx0,qx1,qx2,qx3,qx4,qx5,qx6⟩:=(HC _ HB.out).out
  obtain⟨rx0,rx1,rx2⟩:=(HZ _ HB.out.size).out
  by_cases hlt:k<vn
  ·obtain⟨vb,off,rfl,hvb,hcell⟩:=HV.out.row (by omega)
   obtain⟨v,hv⟩: ∃v,p.vs[k]? =some v:=⟨_,List.getElem?_eq_getElem (by have:=HL.out;omega)⟩
   have HVK:=Lib.hid hv
   have HCV:=fun(W1:World) (hb:Below w.heap.size w W1)=>Lib.hid (hcell W1 (hb.mono hB) k v hv)
   clear hcell hv
   cases hpt:decide (v.at_=q)
   ·have r1:=eq_pt_f hpt
    have HPT:=Lib.hid hpt
    clear hpt
    go_wp2_with fail
    refine wp_name (fun c10 hc10=> ?_)
    have HB:=bnm HB HBW hc10
    have HXC2:=Lib.hid (hc10▸HX.out);have y9:=fun(x0:Later c10)=>(HCV x0.1 (below_step x0.2 HXC2.out)).out.2
    clear hc10
    have xx:=fun(x:Later c10)=>(HC _ (bnl HB HBW x.2)).out
    simp only[forall_and] at xx
    obtain⟨xx0,xx1,xx2,xx3,xx4,xx5,xx6⟩:=xx
    refine wp_region_later (by kernel_rfl) (by kernel_rfl) ?_
    repeat (first|go_big_quiet_step ((fail))|quiet_step ((fail)))
    refine wpQuiet_nil ?_
    intro wt hw10
    have hb10:=later_below hw10
    clear hw10
    have HB:=Lib.hid (bnl HB HBW hb10)
    clear xx0 xx1 xx2 xx3 xx4 xx5 xx6
    clear qx0 qx1 qx2 qx3 qx4 qx5 qx6 rx0 rx1 rx2
    obtain⟨qx0,qx1,qx2,qx3,qx4,qx5,qx6⟩:=(HC _ HB.out).out
    have HX:=Lib.hid (below_step hb10 HXC2.out)
    clear hb10
    obtain⟨rx0,rx1,rx2⟩:=(HZ _ HB.out.size).out
    go_wp2_with fail
    go_roundw
    case rel=>
     refine⟨k+1,by omega,by go_num,fun y hy=> ?_,HB.out⟩
     rw[take_snoc' HVK.out] at hy
     rcases List.mem_append.1 hy with hy|hy
     ·exact HA.out y hy
     ·simp at hy;subst hy;exact HPT.out
    case measure=>simp[intOf];omega
   ·have r1:=eq_pt_t hpt
    have F:=Lib.hid (show v0=plcV (v.id,0,0) 0 from by
     rw[HV0.out]
     unfold findP fndV
     rw[find_hit HA.out HVK.out hpt])
    clear hpt
    go_wp2_with fail
    refine wp_name (fun c11 hc11=> ?_)
    have HB:=bnm HB HBW hc11
    have HXC2:=Lib.hid (hc11▸HX.out);have y9:=fun(x0:Later c11)=>(HCV x0.1 (below_step x0.2 HXC2.out)).out.2
    clear hc11
    have xx:=fun(x:Later c11)=>(HC _ (bnl HB HBW x.2)).out
    simp only[forall_and] at xx
    obtain⟨xx0,xx1,xx2,xx3,xx4,xx5,xx6⟩:=xx
    refine wp_region_later (by kernel_rfl) (by kernel_rfl) ?_
    repeat (first|go_big_quiet_step ((fail))|quiet_step ((fail)))
    refine wpQuiet_nil ?_
    intro wt hw11
    have hb11:=later_below hw11
    clear hw11
    have HB:=Lib.hid (bnl HB HBW hb11)
    clear xx0 xx1 xx2 xx3 xx4 xx5 xx6
    clear qx0 qx1 qx2 qx3 qx4 qx5 qx6 rx0 rx1 rx2
    obtain⟨qx0,qx1,qx2,qx3,qx4,qx5,qx6⟩:=(HC _ HB.out).out
    have HX:=Lib.hid (below_step hb11 HXC2.out)
    clear hb11
    obtain⟨rx0,rx1,rx2⟩:=(HZ _ HB.out.size).out
    obtain⟨e0, -⟩:=(HCV _ HX.out).out
    have HP1:=Lib.hid (rowIs_touch HP0.out (Touch.of_below (F:=[]) HB.out) (by simp))
    have f0:=fun i=>World.rowIs.frozen HP1.out i
    have hlp:=World.rowIs.lt HP1.out
    go_wp2_with fail
    refine bodyPost_ret_by (res_place7 (x:=(v.id,(0:Int),(0:Int))) Tryz.results14 rfl (World.rowIs.congr (World.rowIs.set (World.rowIs.set (World.rowIs.set HP1.out 0 _) 1 _) 2 _) (fun i hi=>by rcases i with _|_|_|i<;>first|rfl|exact absurd hi (by omega)))) rfl ?_
    exact⟨by rw[F.out];rfl,(((HW.out.trans (HB.out.mono HW.out.size)).setCell (p:=⟨w.heap.size+1+1,0,none⟩) (by show _≤w.heap.size+1+1;omega) _).setCell (p:=⟨w.heap.size+1+1,1,none⟩) (by show _≤w.heap.size+1+1;omega) _).setCell (p:=⟨w.heap.size+1+1,2,none⟩) (by show _≤w.heap.size+1+1;omega) _⟩
  ·have HNV:=Lib.hid (show fndV p q=none from by
    unfold fndV
    exact all_no (fun y hy=>HA.out y (by rw[List.take_of_length_le (by have:=HL.out;omega)];exact hy)))
   clear HA
   go_wp2_with fail
   clear qx0 qx1 qx2 qx3 qx4 qx5 qx6 rx0 rx1 rx2
   go_loopw [7] (fun v wr=> ∃n:Nat,n≤en∧v= .int .i64 n∧(∀y∈p.es.take n,onB q (findV p.vs y.a).at_ (findV p.vs y.b).at_=false)∧Below W.heap.size W wr) (fun v _=>en - (intOf v).toNat)
   case atStart=>exact⟨0,Nat.zero_le _,rfl,fun y hy=>by simp at hy,HB.out⟩
   case round=>
    clear HB HX
    obtain⟨n,hn,rfl,hall,hb⟩:=hrel
    have HB:=Lib.hid hb
    have HX:=Lib.hid (HW.out.trans (hb.mono HW.out.size))
    have HA:=Lib.hid hall
    clear hb hall
    obtain⟨qx0,qx1,qx2,qx3,qx4,qx5,qx6⟩:=(HC _ HB.out).out
    obtain⟨rx0,rx1,rx2⟩:=(HZ _ HB.out.size).out
    have HED:=fun(e:Ed) (he:e∈p.es)=>Lib.hid (show endsP p ⟨e.id,false⟩=((findV p.vs e.a).at_,(findV p.vs e.b).at_) from by
     have h1:findE p.es e.id=e:=by unfold findE;rw[show p.es.find? (isE e.id)=edgeOf p.es e.id from rfl,edge_mem HRP.out.es_apart he];rfl
     unfold endsP
     rw[show(⟨e.id,false⟩:Hf).edge=e.id from rfl,h1]
     rfl)
    by_cases hln:n<en
    ·obtain⟨eb,eoff,rfl,heb,hcell⟩:=HE.out.row (by omega)
     obtain⟨e,hev⟩: ∃e,p.es[n]? =some e:=⟨_,List.getElem?_eq_getElem (by have:=HM.out;omega)⟩
     have HEK:=Lib.hid hev
     have hei:EdIn p.vs e:=by
      obtain⟨A,D,ho⟩:=HRP.out.e n e hev
      exact EdIn.of HRP.out.v (hasV_iff.2 ⟨A,ho.pa⟩) (hasV_iff.2 ⟨D,ho.pb⟩) ho.ab
     have HCE:=fun(W1:World) (hb:Below w.heap.size w W1)=>Lib.hid (hcell W1 (hb.mono hB) n e hev)
     have HAA:=fun(W1:World) (hb:Below w.heap.size w W1)=>Lib.hid (r15at_any (w:=W1) (vc:=vc) (HV.out.below (hb.mono hB)) (Nat.le_trans hB hb.size) (by omega) (.slice (some ⟨eb,eoff,none⟩) en ec) ⟨_,_,_,rfl⟩ e.a hei.va)
     have HAB:=fun(W1:World) (hb:Below w.heap.size w W1)=>Lib.hid (r15at_any (w:=W1) (vc:=vc) (HV.out.below (hb.mono hB)) (Nat.le_trans hB hb.size) (by omega) (.slice (some ⟨eb,eoff,none⟩) en ec) ⟨_,_,_,rfl⟩ e.b hei.vb)
     have HON:=fun W=>Lib.hid (r5on_any q (findV p.vs e.a).at_ (findV p.vs e.b).at_ W HQ.out hei.ia hei.ib)
     clear hcell hev hei
     obtain⟨O,hO⟩: ∃O,O=onB q (findV p.vs e.a).at_ (findV p.vs e.b).at_:=⟨_,rfl⟩
     have HOE:=Lib.hid hO.symm
     rw[←hO] at HON
     clear hO
     have HEM:=Lib.hid (List.mem_of_getElem? HEK.out)
     generalize (findV p.vs e.a).at_=A at HAA HON
     generalize (findV p.vs e.b).at_=D at HAB HON
     cases O
     ·go_wp2_with fail
      refine wp_name (fun c13 hc13=> ?_)
      have HB:=bnm HB HBW hc13
      have HXC2:=Lib.hid (hc13▸HX.out);have HAAL:=fun(x0:Later c13)=>HAA x0.1 (below_step x0.2 HXC2.out);have HABL:=fun(x0:Later c13)=>HAB x0.1 (below_step x0.2 HXC2.out);have y9:=fun(x0:Later c13)=>(HCE x0.1 (below_step x0.2 HXC2.out)).out.2
      clear hc13
      have xx:=fun(x:Later c13)=>(HC _ (bnl HB HBW x.2)).out
      simp only[forall_and] at xx
      obtain⟨xx0,xx1,xx2,xx3,xx4,xx5,xx6⟩:=xx
      refine wp_region_later (by kernel_rfl) (by kernel_rfl) ?_
      repeat (first|go_big_quiet_step (((first|(go_at_call 26;with_reducible refine Later.call (HAAL _).out)|(go_at_call 26;with_reducible refine Later.call (HABL _).out)|(go_at_call 42;with_reducible refine Later.call (HON _).out))))|quiet_step (((first|(go_at_call 26;with_reducible refine Later.call (HAAL _).out)|(go_at_call 26;with_reducible refine Later.call (HABL _).out)|(go_at_call 42;with_reducible refine Later.call (HON _).out)))))
      refine wpQuiet_nil ?_
      intro wt hw13
      have hb13:=later_below hw13
      clear hw13
      have HB:=Lib.hid (bnl HB HBW hb13)
      clear xx0 xx1 xx2 xx3 xx4 xx5 xx6
      clear qx0 qx1 qx2 qx3 qx4 qx5 qx6 rx0 rx1 rx2
      obtain⟨qx0,qx1,qx2,qx3,qx4,qx5,qx6⟩:=(HC _ HB.out).out
      have HX:=Lib.hid (below_step hb13 HXC2.out)
      clear hb13
      obtain⟨rx0,rx1,rx2⟩:=(HZ _ HB.out.size).out
      go_wp2_with fail
      go_roundw
      case rel=>
       refine⟨n+1,by omega,by go_num,fun y hy=> ?_,HB.out⟩
       rw[take_snoc' HEK.out] at hy
       rcases List.mem_append.1 hy with hy|hy
       ·exact HA.out y hy
       ·simp at hy;subst hy;exact HOE.out
      case measure=>simp[intOf];omega
     ·have F:=Lib.hid (show v0=plcV (0,e.id,0) 0 from by
       rw[HV0.out]
       unfold findP
       rw[HNV.out]
       have hf:fndE p q=some e:=by
        unfold fndE
        exact find_hit (fun y hy=>by rw[(HED y (List.mem_of_mem_take hy)).out];exact HA.out y hy) HEK.out (by rw[(HED e HEM.out).out];exact HOE.out)
       rw[hf])
      go_wp2_with fail
      refine wp_name (fun c14 hc14=> ?_)
      have HB:=bnm HB HBW hc14
      have HXC2:=Lib.hid (hc14▸HX.out);have HAAL:=fun(x0:Later c14)=>HAA x0.1 (below_step x0.2 HXC2.out);have HABL:=fun(x0:Later c14)=>HAB x0.1 (below_step x0.2 HXC2.out);have y9:=fun(x0:Later c14)=>(HCE x0.1 (below_step x0.2 HXC2.out)).out.2
      clear hc14
      have xx:=fun(x:Later c14)=>(HC _ (bnl HB HBW x.2)).out
      simp only[forall_and] at xx
      obtain⟨xx0,xx1,xx2,xx3,xx4,xx5,xx6⟩:=xx
      refine wp_region_later (by kernel_rfl) (by kernel_rfl) ?_
      repeat (first|go_big_quiet_step (((first|(go_at_call 26;with_reducible refine Later.call (HAAL _).out)|(go_at_call 26;with_reducible refine Later.call (HABL _).out)|(go_at_call 42;with_reducible refine Later.call (HON _).out))))|quiet_step (((first|(go_at_call 26;with_reducible refine Later.call (HAAL _).out)|(go_at_call 26;with_reducible refine Later.call (HABL _).out)|(go_at_call 42;with_reducible refine Later.call (HON _).out)))))
      refine wpQuiet_nil ?_
      intro wt hw14
      have hb14:=later_below hw14
      clear hw14
      have HB:=Lib.hid (bnl HB HBW hb14)
      clear xx0 xx1 xx2 xx3 xx4 xx5 xx6
      clear qx0 qx1 qx2 qx3 qx4 qx5 qx6 rx0 rx1 rx2
      obtain⟨qx0,qx1,qx2,qx3,qx4,qx5,qx6⟩:=(HC _ HB.out).out
      have HX:=Lib.hid (below_step hb14 HXC2.out)
      clear hb14
      obtain⟨rx0,rx1,rx2⟩:=(HZ _ HB.out.size).out
      obtain⟨e0, -⟩:=(HCE _ HX.out).out
      have HP1:=Lib.hid (rowIs_touch HP0.out (Touch.of_below (F:=[]) HB.out) (by simp))
      have f0:=fun i=>World.rowIs.frozen HP1.out i
      have hlp:=World.rowIs.lt HP1.out
      go_wp2_with fail
      refine bodyPost_ret_by (res_place7 (x:=((0:Int),e.id,(0:Int))) Tryz.results14 rfl (World.rowIs.congr (World.rowIs.set (World.rowIs.set (World.rowIs.set HP1.out 0 _) 1 _) 2 _) (fun i hi=>by rcases i with _|_|_|i<;>first|rfl|exact absurd hi (by omega)))) rfl ?_
      exact⟨by rw[F.out];rfl,(((HW.out.trans (HB.out.mono HW.out.size)).setCell (p:=⟨w.heap.size+1+1,0,none⟩) (by show _≤w.heap.size+1+1;omega) _).setCell (p:=⟨w.heap.size+1+1,1,none⟩) (by show _≤w.heap.size+1+1;omega) _).setCell (p:=⟨w.heap.size+1+1,2,none⟩) (by show _≤w.heap.size+1+1;omega) _⟩
    ·have F:=Lib.hid (show v0=plcV (0,0,N) 0 from by
      rw[HV0.out]
      unfold findP
      rw[HNV.out]
      have hf:fndE p q=none:=by
       unfold fndE
       exact all_no (fun y hy=>by rw[(HED y hy).out];exact HA.out y (by rw[List.take_of_length_le (by have:=HM.out;omega)];exact hy))
      rw[hf])
     have HOUT:=fun(W1:World) (hb:Below w.heap.size w W1)=>Lib.hid (r17outers_any (w:=W1) (vc:=vc) (ec:=ec) HRP.out (HV.out.below (hb.mono hB)) (HE.out.below (hb.mono hB)) (Nat.le_trans hB hb.size) hec hfew)
     have HPIE:=fun(W1:World) (hb:Below w.heap.size w W1)=>Lib.hid (r16pieces_any (w:=W1) (vc:=vc) (ec:=ec) HRP.out (HV.out.below (hb.mono hB)) (HE.out.below (hb.mono hB)) (Nat.le_trans hB hb.size))
     clear HA HED HNV
     obtain⟨wo,rfl⟩: ∃x:World,x=wr:=⟨_,rfl⟩
     go_wp2_with fail
     clear qx0 qx1 qx2 qx3 qx4 qx5 qx6 rx0 rx1 rx2
     have HY:=fun(w':World) (t:Below wo.heap.size wo w')=>Lib.hid (show w'.cell? ⟨w.heap.size,0,none⟩=some (.slice va vn vc)∧w'.cell? ⟨w.heap.size,1,none⟩=some (.slice ea en ec)∧w'.cell? ⟨w.heap.size+1,0,none⟩=some (.int .i64 q.x)∧w'.cell? ⟨w.heap.size+1,1,none⟩=some (.int .i64 q.y) from by
      obtain⟨d0,d1,d2,d3, -⟩:=(HC _ (HB.out.trans (t.mono HB.out.size))).out
      exact⟨d0,d1,d2,d3⟩)
     have HS0:=Lib.hid (Below.refl wo.heap.size wo).drew
     refine wp_region_noPanic ?_
     refine wp_region_par3 9 9 (by kernel_rfl) (by kernel_rfl) (by simp) (by omega) (by kernel_rfl) (by kernel_rfl) (fun w':World=>Below wo.heap.size wo w') ?_
     refine par3_read8 (v:= ?_) 0 (by simp only[zga,zgb,zgc];rfl) (by kernel_rfl) (by rfl) HS0.out ?_ (fun _ _ _ h=>h) ?_
     rotate_left
     ·(intro w9 hSw;obtain⟨y0,y1,y2,y3⟩:=(HY w9 hSw).out;clear hSw;go_simp;try with_reducible rfl)
     simp only[Act.put,zpa,zpb,zpc]
     refine par3_read8 (v:= ?_) 1 (by simp only[zga,zgb,zgc];rfl) (by kernel_rfl) (by rfl) HS0.out ?_ (fun _ _ _ h=>h) ?_
     rotate_left
     ·(intro w9 hSw;obtain⟨y0,y1,y2,y3⟩:=(HY w9 hSw).out;clear hSw;go_simp;try with_reducible rfl)
     simp only[Act.put,zpa,zpb,zpc]
     refine par3_read8 (v:= ?_) 3 (by simp only[zga,zgb,zgc];rfl) (by kernel_rfl) (by rfl) HS0.out ?_ (fun _ _ _ h=>h) ?_
     rotate_left
     ·(intro w9 hSw;obtain⟨y0,y1,y2,y3⟩:=(HY w9 hSw).out;clear hSw;go_simp;try with_reducible rfl)
     simp only[Act.put,zpa,zpb,zpc]
     refine par3_read8 (v:= ?_) 4 (by simp only[zga,zgb,zgc];rfl) (by kernel_rfl) (by rfl) HS0.out ?_ (fun _ _ _ h=>h) ?_
     rotate_left
     ·(intro w9 hSw;obtain⟨y0,y1,y2,y3⟩:=(HY w9 hSw).out;clear hSw;go_simp;try with_reducible rfl)
     simp only[Act.put,zpa,zpb,zpc]
     refine par3_nm (fun W0 hW0=> ?_)
     rw[←hW0] at HS0
     clear hW0
     refine par3_one 2 (by simp only[zga,zgb,zgc];rfl) (by kernel_rfl) (by rfl) ?_
     refine owp_call (by go_simp;constructor<;>rfl) ?_
     refine(HOUT _ (below_step HS0.out HX.out)).out.mono ?_
     rintro z W2 ⟨⟨oa,on,oc,rfl,hrg, -⟩,hb9⟩
     have HS2:=Lib.hid (below_next HS0.out HS0.out.size hb9)
     have HRG:=Lib.hid hrg
     refine⟨_,rfl,fun s _=>HS2.out, ?_⟩
     clear hb9 hrg
     simp only[Act.put,zpa,zpb,zpc]
     refine par3_one 5 (by simp only[zga,zgb,zgc];rfl) (by kernel_rfl) (by rfl) ?_
     refine owp_call (by go_simp;constructor<;>rfl) ?_
     refine(HPIE _ (below_step HS2.out HX.out)).out.mono ?_
     rintro z W5 ⟨⟨pa,pc,rfl,hown⟩,hb9⟩
     have HS5:=Lib.hid (below_next HS2.out HS2.out.size hb9)
     have HRG5:=Lib.hid ((HRG.out.below hb9).mono hb9.size)
     have HNS:=Lib.hid (own_ns hown (rowN_len _ _).symm)
     refine⟨_,rfl,fun s _=>HS5.out, ?_⟩
     clear hb9 hown
     simp only[Act.put,zpa,zpb,zpc]
     have HX5:=Lib.hid (below_step HS5.out HX.out)
     have HLE:=Lib.hid (r17least_any (w:=W5) (vc:=vc) (ec:=ec) (rc:=oc) (pc:=pc) HRP.out ((HV.out.below (HX5.out.mono hB)).mono (Nat.le_trans hB HX5.out.size)) ((HE.out.below (HX5.out.mono hB)).mono (Nat.le_trans hB HX5.out.size)) HRG5.out HNS.out q HQ.out (Nat.le_refl _) hec hfew (-1))
     have hgb:=around_bd ((orsP p).map (ouOf (pieceR p))) q (-1)
     have hgl:((orsP p).map (ouOf (pieceR p))).length≤400:=by
      unfold orsP
      rw[List.length_map,List.length_map]
      have h2:(outersP p).length≤(ringsP p).length:=List.length_filter_le _ _
      have:=HRP.out.rings_few
      have:=HM.out
      omega
     have hNg:=HNN.out
     generalize aroundP ((orsP p).map (ouOf (pieceR p))) q (-1)=G at HLE hgb hNg
     have hwr:IntKind.i64.wrap (1+G)=N:=by rw[IntWalk.i64_in _ (by omega),hNg]
     clear hgb hgl hNg
     refine par3_one 6 (by simp only[zga,zgb,zgc];rfl) (by kernel_rfl) (by rfl) ?_
     refine owp_call (by go_simp;constructor<;>rfl) ?_
     refine HLE.out.mono ?_
     rintro z W6 ⟨rfl,hb9⟩
     have HS6:=Lib.hid (below_next HS5.out HS5.out.size hb9)
     refine⟨_,rfl,fun s _=>HS6.out, ?_⟩
     clear hb9
     simp only[Act.put,zpa,zpb,zpc]
     refine par3_move (v:= ?_) 7 (by simp only[zga,zgb,zgc];rfl) (by kernel_rfl) (by rfl) ?_ (fun _ _ _ h=>h) ?_
     rotate_left
     ·(intro w9;go_simp;try with_reducible rfl)
     simp only[Act.put,zpa,zpb,zpc]
     refine par3_move (v:= ?_) 8 (by simp only[zga,zgb,zgc];rfl) (by kernel_rfl) (by rfl) ?_ (fun _ _ _ h=>h) ?_
     rotate_left
     ·(intro w9;go_simp;try with_reducible rfl)
     simp only[Act.put,zpa,zpb,zpc]
     have HB:=Lib.hid (HB.out.trans (HS6.out.mono HB.out.size))
     have HP1:=Lib.hid (rowIs_touch HP0.out (Touch.of_below (F:=[]) HB.out) (by simp))
     have f0:=fun i=>World.rowIs.frozen HP1.out i
     have q0:W6.cell? ⟨w.heap.size+1+1,0,none⟩=some (.int .i64 0):=World.rowIs.cell HP1.out (i:=0) (by decide)
     have q1:W6.cell? ⟨w.heap.size+1+1,1,none⟩=some (.int .i64 0):=World.rowIs.cell HP1.out (i:=1) (by decide)
     have q2:W6.cell? ⟨w.heap.size+1+1,2,none⟩=some (.int .i64 0):=World.rowIs.cell HP1.out (i:=2) (by decide)
     refine par3_tail _ (by simp only[List.drop_succ_cons,List.drop_zero];rfl) (by kernel_rfl) ?_
     go_wp2_with fail
     refine NoPanic.normal ?_
     go_wp2_with fail
     refine bodyPost_ret_by (res_place7 (x:=((0:Int),(0:Int),N)) Tryz.results14 rfl (World.rowIs.congr (World.rowIs.set (World.rowIs.set (World.rowIs.set HP1.out 0 _) 1 _) 2 _) (fun i hi=>by rcases i with _|_|_|i<;>first|rfl|exact absurd hi (by omega)))) rfl ?_
     exact⟨by rw[F.out];rfl,(((HW.out.trans (HB.out.mono HW.out.size)).setCell (p:=⟨w.heap.size+1+1,0,none⟩) (by show _≤w.heap.size+1+1;omega) _).setCell (p:=⟨w.heap.size+1+1,1,none⟩) (by show _≤w.heap.size+1+1;omega) _).setCell (p:=⟨w.heap.size+1+1,2,none⟩) (by show _≤w.heap.size+1+1;omega) _⟩
end Go.Proofs.YthopjhifepijiaaGreat
