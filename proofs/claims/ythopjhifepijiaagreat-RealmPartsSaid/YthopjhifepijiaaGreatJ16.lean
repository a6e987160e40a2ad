/- Lemmas on the way to the statement. -/
import Derived.Test.YthopjhifepijiaaGreatJ13
set_option linter.unusedSimpArgs false
set_option linter.unusedVariables false
namespace Go.Proofs.YthopjhifepijiaaGreat
open Go.RowKit Go.Joins
def withinD (p:PL) (R:List Hf) (q:Pt):Bool:=((rightR p&&R.all fun h=>hasE p.es h.edge)&&inB q)&&withinR q (R.map (endsP p)) 0
theorem withinR_no {q A B:Pt} {l:List (Pt × Pt)} {m:Nat} {r:Bool} (h:wthR q A B=false) (hr:rayR A B q=r):withinR q ((A,B)::l) m=withinR q l (if r=true then m+1 else m):=by
 simp[withinR,h,hr]
set_option maxRecDepth 100000 in
set_option maxHeartbeats 16000000 in
theorem r17within_any {w:World} {B vn vc en ec n c:Nat} {va ea a:Option Addr} {p:PL} {R:List Hf} (q:Pt) (hv:VsIn w B va vn p.vs) (he:EsIn w B ea en p.es) (hr:HsIn w B a n R) (hB:B≤w.heap.size) (hec:en≤ec) (hn:vn≤100000) (hm:en≤100000) (hl:n≤100000):
  Calls Tryz.prog 67 #[.agg #[.slice va vn vc, .slice ea en ec], .slice a n c, .agg #[.int .i64 q.x, .int .i64 q.y]] w fun e w'=>e= .returned (.bool (withinD p R q))∧Below w.heap.size w w':=by
 have HRT:=fun(W:World) (hb:Below w.heap.size w W)=>Lib.hid (r15right_any (w:=W) (vc:=vc) (hv.below (hb.mono hB)) (he.below (hb.mono hB)) (Nat.le_trans hB hb.size) hec)
 have HKN:=fun(W:World) (hb:Below w.heap.size w W)=>Lib.hid (r17known_any (w:=W) (c:=c) (ec:=ec) (he.below (hb.mono hB)) (hr.below (hb.mono hB)) (Nat.le_trans hB hb.size) hm hl (.slice va vn vc) ⟨_,_,_,rfl⟩)
 have HIN:=fun W=>Lib.hid (r5in_any q W)
 have HV:=Lib.hid hv
 have HE:=Lib.hid he
 have HRS:=Lib.hid hr
 have HL:=Lib.hid hr.1
 have HD:=Lib.hid (show withinD p R q=(((rightR p&&R.all fun h=>hasE p.es h.edge)&&inB q)&&withinR q (R.map (endsP p)) 0) from rfl)
 clear hv he hr
 cases hrr:rightR p
 ·rw[hrr] at HRT HD
  clear hrr
  go_enter Tryz.func67,Tryz.ntmps67
  go_wp2_with fail
  first|refine wp_name (fun W hW=> ?_)|refine calls_name (fun W hW=> ?_)
  have HW:Hid (Below w.heap.size w W):=Lib.hid (by rw[←hW];repeat (first|exact Below.refl _ _|refine below_alloc ?_))
  have HWs:Hid (W.heap.size=w.heap.size+1+1):=Lib.hid (by rw[←hW];simp)
  have HBW:Hid (W.heap.size≤W.heap.size):=Lib.hid (by have:=HWs.out;omega)
  have HC:=fun(W1:World) (hb:Below (W.heap.size) W W1)=>Lib.hid (show W1.cell? ⟨w.heap.size,0,none⟩=some (.slice va vn vc)∧W1.cell? ⟨w.heap.size,1,none⟩=some (.slice ea en ec)∧W1.cell? ⟨w.heap.size+1,0,none⟩=some (.int .i64 q.x)∧W1.cell? ⟨w.heap.size+1,1,none⟩=some (.int .i64 q.y) from by have hs:=HWs.out;refine⟨?_, ?_, ?_, ?_⟩<;>(refine(hb.cell (by dsimp only;omega)).trans ?_;rw[←hW];clear hW;go_simp))
  have HB:=Lib.hid (Below.refl (W.heap.size) W)
  clear hW
  have HZ:=fun(W1:World) (hb:W.heap.size≤W1.heap.size)=>Lib.hid (show w.heap.size<W1.heap.size∧w.heap.size+1<W1.heap.size from by have:=HWs.out;refine⟨?_, ?_⟩<;>omega)
  obtain⟨qx0,qx1,qx2,qx3⟩:=(HC _ HB.out).out
  obtain⟨rx0,rx1⟩:=(HZ _ HB.out.size).out
  refine((HRT _ HW.out).out).mono ?_
  rintro e w2 ⟨rfl,hb2⟩
  have HB:=bnx HB HBW hb2
  clear qx0 qx1 qx2 qx3 rx0 rx1
  obtain⟨qx0,qx1,qx2,qx3⟩:=(HC _ HB.out).out
  clear hb2
  obtain⟨rx0,rx1⟩:=(HZ _ HB.out.size).out
  go_wp2_with fail
  go_ret
  exact⟨by rw[HD.out];rfl,bfn HW HB⟩
 cases hkn:(R.all fun h=>hasE p.es h.edge)
 ·rw[hrr] at HRT HD
  rw[hkn] at HKN HD
  clear hrr hkn
  go_enter Tryz.func67,Tryz.ntmps67
  go_wp2_with fail
  first|refine wp_name (fun W hW=> ?_)|refine calls_name (fun W hW=> ?_)
  have HW:Hid (Below w.heap.size w W):=Lib.hid (by rw[←hW];repeat (first|exact Below.refl _ _|refine below_alloc ?_))
  have HWs:Hid (W.heap.size=w.heap.size+1+1):=Lib.hid (by rw[←hW];simp)
  have HBW:Hid (W.heap.size≤W.heap.size):=Lib.hid (by have:=HWs.out;omega)
  have HC:=fun(W1:World) (hb:Below (W.heap.size) W W1)=>Lib.hid (show W1.cell? ⟨w.heap.size,0,none⟩=some (.slice va vn vc)∧W1.cell? ⟨w.heap.size,1,none⟩=some (.slice ea en ec)∧W1.cell? ⟨w.heap.size+1,0,none⟩=some (.int .i64 q.x)∧W1.cell? ⟨w.heap.size+1,1,none⟩=some (.int .i64 q.y) from by have hs:=HWs.out;refine⟨?_, ?_, ?_, ?_⟩<;>(refine(hb.cell (by dsimp only;omega)).trans ?_;rw[←hW];clear hW;go_simp))
  have HB:=Lib.hid (Below.refl (W.heap.size) W)
  clear hW
  have HZ:=fun(W1:World) (hb:W.heap.size≤W1.heap.size)=>Lib.hid (show w.heap.size<W1.heap.size∧w.heap.size+1<W1.heap.size from by have:=HWs.out;refine⟨?_, ?_⟩<;>omega)
  obtain⟨qx0,qx1,qx2,qx3⟩:=(HC _ HB.out).out
  obtain⟨rx0,rx1⟩:=(HZ _ HB.out.size).out
  refine((HRT _ HW.out).out).mono ?_
  rintro e w1 ⟨rfl,hb5⟩
  have HB:=bnx HB HBW hb5
  clear qx0 qx1 qx2 qx3 rx0 rx1
  obtain⟨qx0,qx1,qx2,qx3⟩:=(HC _ HB.out).out
  clear hb5
  obtain⟨rx0,rx1⟩:=(HZ _ HB.out.size).out
  go_wp2_with fail
  refine((HKN _ (HW.out.trans (HB.out.mono HW.out.size))).out).mono ?_
  rintro e w6 ⟨rfl,hb6⟩
  have HB:=bnx HB HBW hb6
  clear qx0 qx1 qx2 qx3 rx0 rx1
  obtain⟨qx0,qx1,qx2,qx3⟩:=(HC _ HB.out).out
  clear hb6
  obtain⟨rx0,rx1⟩:=(HZ _ HB.out.size).out
  go_wp2_with fail
  go_ret
  exact⟨by rw[HD.out];rfl,bfn HW HB⟩
 cases hin:inB q
 ·rw[hrr] at HRT HD
  rw[hkn] at HKN HD
  rw[hin] at HIN HD
  clear hrr hkn hin
  go_enter Tryz.func67,Tryz.ntmps67
  go_wp2_with fail
  first|refine wp_name (fun W hW=> ?_)|refine calls_name (fun W hW=> ?_)
  have HW:Hid (Below w.heap.size w W):=Lib.hid (by rw[←hW];repeat (first|exact Below.refl _ _|refine below_alloc ?_))
  have HWs:Hid (W.heap.size=w.heap.size+1+1):=Lib.hid (by rw[←hW];simp)
  have HBW:Hid (W.heap.size≤W.heap.size):=Lib.hid (by have:=HWs.out;omega)
  have HC:=fun(W1:World) (hb:Below (W.heap.size) W W1)=>Lib.hid (show W1.cell? ⟨w.heap.size,0,none⟩=some (.slice va vn vc)∧W1.cell? ⟨w.heap.size,1,none⟩=some (.slice ea en ec)∧W1.cell? ⟨w.heap.size+1,0,none⟩=some (.int .i64 q.x)∧W1.cell? ⟨w.heap.size+1,1,none⟩=some (.int .i64 q.y) from by have hs:=HWs.out;refine⟨?_, ?_, ?_, ?_⟩<;>(refine(hb.cell (by dsimp only;omega)).trans ?_;rw[←hW];clear hW;go_simp))
  have HB:=Lib.hid (Below.refl (W.heap.size) W)
  clear hW
  have HZ:=fun(W1:World) (hb:W.heap.size≤W1.heap.size)=>Lib.hid (show w.heap.size<W1.heap.size∧w.heap.size+1<W1.heap.size from by have:=HWs.out;refine⟨?_, ?_⟩<;>omega)
  obtain⟨qx0,qx1,qx2,qx3⟩:=(HC _ HB.out).out
  obtain⟨rx0,rx1⟩:=(HZ _ HB.out.size).out
  refine((HRT _ HW.out).out).mono ?_
  rintro e w1 ⟨rfl,hb9⟩
  have HB:=bnx HB HBW hb9
  clear qx0 qx1 qx2 qx3 rx0 rx1
  obtain⟨qx0,qx1,qx2,qx3⟩:=(HC _ HB.out).out
  clear hb9
  obtain⟨rx0,rx1⟩:=(HZ _ HB.out.size).out
  go_wp2_with fail
  refine((HKN _ (HW.out.trans (HB.out.mono HW.out.size))).out).mono ?_
  rintro e w2 ⟨rfl,hb10⟩
  have HB:=bnx HB HBW hb10
  clear qx0 qx1 qx2 qx3 rx0 rx1
  obtain⟨qx0,qx1,qx2,qx3⟩:=(HC _ HB.out).out
  clear hb10
  obtain⟨rx0,rx1⟩:=(HZ _ HB.out.size).out
  go_wp2_with fail
  refine((HIN _).out).mono ?_
  rintro e w11 ⟨rfl,hb11⟩
  have HB:=bnx HB HBW hb11
  clear qx0 qx1 qx2 qx3 rx0 rx1
  obtain⟨qx0,qx1,qx2,qx3⟩:=(HC _ HB.out).out
  clear hb11
  obtain⟨rx0,rx1⟩:=(HZ _ HB.out.size).out
  go_wp2_with fail
  go_ret
  exact⟨by rw[HD.out];rfl,bfn HW HB⟩
 have HRP:=Lib.hid (rightR_iff.1 hrr)
 have HKP:=Lib.hid (List.all_eq_true.1 hkn)
 have HIQ:=Lib.hid hin
 rw[hrr] at HRT HD
 rw[hkn] at HKN HD
 rw[hin] at HIN HD
 clear hrr hkn hin
 go_enter Tryz.func67,Tryz.ntmps67
 go_wp2_with fail
 first|refine wp_name (fun W hW=> ?_)|refine calls_name (fun W hW=> ?_)
 have HW:Hid (Below w.heap.size w W):=Lib.hid (by rw[←hW];repeat (first|exact Below.refl _ _|refine below_alloc ?_))
 have HWs:Hid (W.heap.size=w.heap.size+1+1):=Lib.hid (by rw[←hW];simp)
 have HBW:Hid (W.heap.size≤W.heap.size):=Lib.hid (by have:=HWs.out;omega)
 have HC:=fun(W1:World) (hb:Below (W.heap.size) W W1)=>Lib.hid (show W1.cell? ⟨w.heap.size,0,none⟩=some (.slice va vn vc)∧W1.cell? ⟨w.heap.size,1,none⟩=some (.slice ea en ec)∧W1.cell? ⟨w.heap.size+1,0,none⟩=some (.int .i64 q.x)∧W1.cell? ⟨w.heap.size+1,1,none⟩=some (.int .i64 q.y) from by have hs:=HWs.out;refine⟨?_, ?_, ?_, ?_⟩<;>(refine(hb.cell (by dsimp only;omega)).trans ?_;rw[←hW];clear hW;go_simp))
 have HB:=Lib.hid (Below.refl (W.heap.size) W)
 clear hW
 have HZ:=fun(W1:World) (hb:W.heap.size≤W1.heap.size)=>Lib.hid (show w.heap.size<W1.heap.size∧w.heap.size+1<W1.heap.size from by have:=HWs.out;refine⟨?_, ?_⟩<;>omega)
 obtain⟨qx0,qx1,qx2,qx3⟩:=(HC _ HB.out).out
 obtain⟨rx0,rx1⟩:=(HZ _ HB.out.size).out
 refine((HRT _ HW.out).out).mono ?_
 rintro e w1 ⟨rfl,hb14⟩
 have HB:=bnx HB HBW hb14
 clear qx0 qx1 qx2 qx3 rx0 rx1
 obtain⟨qx0,qx1,qx2,qx3⟩:=(HC _ HB.out).out
 clear hb14
 obtain⟨rx0,rx1⟩:=(HZ _ HB.out.size).out
 go_wp2_with fail
 refine((HKN _ (HW.out.trans (HB.out.mono HW.out.size))).out).mono ?_
 rintro e w2 ⟨rfl,hb15⟩
 have HB:=bnx HB HBW hb15
 clear qx0 qx1 qx2 qx3 rx0 rx1
 obtain⟨qx0,qx1,qx2,qx3⟩:=(HC _ HB.out).out
 clear hb15
 obtain⟨rx0,rx1⟩:=(HZ _ HB.out.size).out
 go_wp2_with fail
 refine((HIN _).out).mono ?_
 rintro e w3 ⟨rfl,hb16⟩
 have HB:=bnx HB HBW hb16
 clear qx0 qx1 qx2 qx3 rx0 rx1
 obtain⟨qx0,qx1,qx2,qx3⟩:=(HC _ HB.out).out
 clear hb16
 obtain⟨rx0,rx1⟩:=(HZ _ HB.out.size).out
 go_wp2_with fail
 clear qx0 qx1 qx2 qx3 rx0 rx1
 go_loopw [7,8] (fun nv iv wr=> ∃k m:Nat,k≤n∧m≤k∧iv= .int .i64 k∧nv= .int .i64 m∧withinR q ((R.map (endsP p)).drop k) m=withinR q (R.map (endsP p)) 0∧Below W.heap.size W wr) (fun _ iv _=>n - (intOf iv).toNat)
 case atStart=>exact⟨0,0,Nat.zero_le _,Nat.le_refl _,rfl,rfl,rfl,HB.out⟩
 case round=>
  clear HB
  obtain⟨k,m,hk,hmk,rfl,rfl,hwi,hb⟩:=hrel
  have HB:=Lib.hid hb
  have HWI:=Lib.hid hwi
  clear hb hwi
  obtain⟨qx0,qx1,qx2,qx3⟩:=(HC _ HB.out).out
  obtain⟨rx0,rx1⟩:=(HZ _ HB.out.size).out
  have HX:=Lib.hid (HW.out.trans (HB.out.mono HW.out.size))
  by_cases hlt:k<n
  ·obtain⟨rb,roff,rfl,hrb,hcell⟩:=HRS.out.row (by omega)
   have hrw:rb<wr.heap.size:=by have:=HX.out.size;omega
   obtain⟨v,hv⟩: ∃v,R[k]? =some v:=⟨_,List.getElem?_eq_getElem (by have:=HL.out;omega)⟩
   have HVK:=Lib.hid hv
   have hcw:=hcell wr (HX.out.mono hB) k v hv
   have HCR:=Lib.hid hcw
   have hhe:=HKP.out v (List.mem_of_getElem? hv)
   have HEN:=fun(W1:World) (hb:Below w.heap.size w W1)=>Lib.hid (r17ends_any (w:=W1) (vc:=vc) (ec:=ec) (HV.out.below (hb.mono hB)) (HE.out.below (hb.mono hB)) (Nat.le_trans hB hb.size) hn hm v (HRP.out.halfIn hhe))
   have hmem:=known_mem (h:=v) hhe
   have hpt:=HRP.out.half_pts hmem
   have HDR:=Lib.hid (show(R.map (endsP p)).drop k=endsP p v::(R.map (endsP p)).drop (k+1) from by
    rw[List.drop_eq_getElem_cons (by rw[List.length_map];have:=HL.out;omega)]
    congr 1
    rw[List.getElem_map]
    have:=(List.getElem?_eq_some_iff.1 hv).2
    rw[this])
   obtain⟨⟨PA,PB⟩,hep⟩: ∃x,x=endsP p v:=⟨_,rfl⟩
   rw[←hep] at HDR HEN
   have hia:inB PA=true:=by have:=hpt.1;rw[show PA=(endsP p v).1 from by rw[←hep]];rw[endsP_line hhe];exact hpt.1
   have hib:inB PB=true:=by have:=hpt.1;rw[show PB=(endsP p v).2 from by rw[←hep]];rw[endsP_line hhe];exact hpt.2.1
   have HW5:=fun W=>Lib.hid (r5within_any q PA PB W HIQ.out hia hib)
   have HT5:=fun W=>Lib.hid (r5turn_any PA PB q W hia hib HIQ.out)
   clear hv hcw hcell hhe hmem hpt hep hia hib
   go_wp2_with fail
   go_upto_region 7 with fail
   go_cut [9,10] (fun v9 v10 wx=> ∃g1 g2,v9= .pointer (some ⟨g1,0,none⟩)∧v10= .pointer (some ⟨g2,0,none⟩)∧wx.rowIs g1 42 2 (ptF PA)∧wx.rowIs g2 42 2 (ptF PB)∧g1≠g2∧wr.heap.size≤g1∧wr.heap.size≤g2∧Below wr.heap.size wr wx)
   case first=>
    have HY:=fun(w':World) (t:Below wr.heap.size wr w')=>Lib.hid (show w'.cell? ⟨w.heap.size,0,none⟩=some (.slice va vn vc)∧w'.cell? ⟨w.heap.size,1,none⟩=some (.slice ea en ec)∧w'.cell? ⟨rb,roff+k*2,none⟩=some (.int .i64 v.edge)∧w'.cell? ⟨rb,roff+k*2+1,none⟩=some (.bool v.back) from by
     have hc:=(HC _ (HB.out.trans (t.mono HB.out.size))).out
     exact⟨hc.1,hc.2.1,(t.cell (p:=⟨rb,_,none⟩) hrw).trans HCR.out.1,(t.cell (p:=⟨rb,_,none⟩) hrw).trans HCR.out.2⟩)
    have HS0:=Lib.hid (Below.refl wr.heap.size wr).drew
    refine wp_region_noPanic ?_
    refine wp_region_par3 12 12 (by kernel_rfl) (by kernel_rfl) (by simp) (by omega) (by kernel_rfl) (by kernel_rfl) (fun w':World=>Below wr.heap.size wr w') ?_
    refine par3_read (v:= ?_) 0 (by simp only[zga,zgb,zgc];rfl) (by kernel_rfl) (by rfl) HS0.out ?_ (fun _ _ _ h=>h) ?_
    rotate_left
    ·(intro w9 hSw;obtain⟨y0,y1,y2,y3⟩:=(HY w9 hSw).out;clear hSw;go_simp;try with_reducible rfl)
    simp only[Act.put,zpa,zpb,zpc]
    refine par3_move (v:= ?_) 1 (by simp only[zga,zgb,zgc];rfl) (by kernel_rfl) (by rfl) ?_ (fun _ _ _ h=>h) ?_
    rotate_left
    ·(intro w9;go_simp;try with_reducible rfl)
    simp only[Act.put,zpa,zpb,zpc]
    refine par3_move (v:= ?_) 2 (by simp only[zga,zgb,zgc];rfl) (by kernel_rfl) (by rfl) ?_ (fun _ _ _ h=>h) ?_
    rotate_left
    ·(intro w9;go_simp;try with_reducible rfl)
    simp only[Act.put,zpa,zpb,zpc]
    refine par3_move (v:= ?_) 3 (by simp only[zga,zgb,zgc];rfl) (by kernel_rfl) (by rfl) ?_ (fun _ _ _ h=>h) ?_
    rotate_left
    ·(intro w9;go_simp;try with_reducible rfl)
    simp only[Act.put,zpa,zpb,zpc]
    refine par3_read (v:= ?_) 4 (by simp only[zga,zgb,zgc];rfl) (by kernel_rfl) (by rfl) HS0.out ?_ (fun _ _ _ h=>h) ?_
    rotate_left
    ·(intro w9 hSw;obtain⟨y0,y1,y2,y3⟩:=(HY w9 hSw).out;clear hSw;go_simp;try with_reducible rfl)
    simp only[Act.put,zpa,zpb,zpc]
    refine par3_nm (fun W0 hW0=> ?_)
    rw[←hW0] at HS0
    clear hW0
    refine par3_three 5 9 10 (by simp only[zga,zgb,zgc];rfl) (by simp only[zga,zgb,zgc];rfl) (by simp only[zga,zgb,zgc];rfl) (by kernel_rfl) (by rfl) (by rfl) (by rfl) ?_ ?_ ?_
    ·refine owp_call (by go_simp;constructor<;>rfl) ?_
     refine(HEN _ (HX.out.trans (HS0.out.mono HX.out.size))).out.mono ?_
     rintro x W5 ⟨rfl,hb9⟩
     have HS5:=Lib.hid (below_next HS0.out HS0.out.size hb9)
     have HZ5:=Lib.hid hb9.size
     refine⟨_,rfl,fun s _=>HS5.out, ?_⟩
     simp only[Act.put,zpa,zpb,zpc]
     refine par3_move (v:= ?_) 6 (by simp only[zga,zgb,zgc];rfl) (by kernel_rfl) (by rfl) ?_ (fun _ _ _ h=>h) ?_
     rotate_left
     ·(intro w9;go_simp;try with_reducible rfl)
     simp only[Act.put,zpa,zpb,zpc]
     refine par3_move (v:= ?_) 7 (by simp only[zga,zgb,zgc];rfl) (by kernel_rfl) (by rfl) ?_ (fun _ _ _ h=>h) ?_
     rotate_left
     ·(intro w9;go_simp;try with_reducible rfl)
     simp only[Act.put,zpa,zpb,zpc]
     refine par3_move (v:= ?_) 8 (by simp only[zga,zgb,zgc];rfl) (by kernel_rfl) (by rfl) ?_ (fun _ _ _ h=>h) ?_
     rotate_left
     ·(intro w9;go_simp;try with_reducible rfl)
     simp only[Act.put,zpa,zpb,zpc]
     clear hb9
     refine par3_two 9 10 (by simp only[zga,zgb,zgc];rfl) (by simp only[zga,zgb,zgc];rfl) (by kernel_rfl) (by rfl) (by rfl) ?_ ?_
     ·refine owp_val (v:= ?_) (w1:= ?_) ?_ ?_
      rotate_left 2
      ·(go_simp;constructor<;>rfl)
      refine⟨fun s _=>s.alloc s.size _, ?_⟩
      simp only[Act.put,zpa,zpb,zpc]
      have HRA:=Lib.hid (show(W5.alloc (.cells #[.int .i64 0, .int .i64 0] 42)).rowIs W5.heap.size 42 2 (ptF ⟨0,0⟩) from World.rowIs_alloc W5 #[.int .i64 0, .int .i64 0] 42 (ptF ⟨0,0⟩) (ptF_get ⟨0,0⟩))
      have HSA:=Lib.hid (HS5.out.alloc HS5.out.size (.cells #[.int .i64 0, .int .i64 0] 42))
      have HZA:=Lib.hid (show W5.heap.size<(W5.alloc (.cells #[.int .i64 0, .int .i64 0] 42)).heap.size from by simp)
      refine par3_nm (fun WA hW9=> ?_)
      rw[←hW9] at HRA HSA HZA
      clear hW9
      refine par3_one 10 (by simp only[zga,zgb,zgc];rfl) (by kernel_rfl) (by rfl) ?_
      refine owp_val (v:= ?_) (w1:= ?_) ?_ ?_
      rotate_left 2
      ·(go_simp;constructor<;>rfl)
      refine⟨fun s _=>s.alloc s.size _, ?_⟩
      simp only[Act.put,zpa,zpb,zpc]
      have HRB:=Lib.hid (show(WA.alloc (.cells #[.int .i64 0, .int .i64 0] 42)).rowIs WA.heap.size 42 2 (ptF ⟨0,0⟩) from World.rowIs_alloc WA #[.int .i64 0, .int .i64 0] 42 (ptF ⟨0,0⟩) (ptF_get ⟨0,0⟩))
      have HSB:=Lib.hid (HSA.out.alloc HSA.out.size (.cells #[.int .i64 0, .int .i64 0] 42))
      have HZB:=Lib.hid (show WA.heap.size<(WA.alloc (.cells #[.int .i64 0, .int .i64 0] 42)).heap.size from by simp)
      have HRA2:=Lib.hid (World.rowIs.alloc HRA.out (.cells #[.int .i64 0, .int .i64 0] 42))
      refine par3_nm (fun WB hW9=> ?_)
      rw[←hW9] at HRB HSB HZB HRA2
      clear hW9
      have hne0:W5.heap.size≠WA.heap.size:=by have:=HZA.out;omega
      have hl10:wr.heap.size≤W5.heap.size:=HS5.out.size
      have hl20:wr.heap.size≤WA.heap.size:=HSA.out.size
      obtain⟨g1,hg1⟩: ∃g,g=W5.heap.size:=⟨_,rfl⟩
      obtain⟨g2,hg2⟩: ∃g,g=WA.heap.size:=⟨_,rfl⟩
      have hne:g1≠g2:=by rw[hg1,hg2];exact hne0
      have hl1:wr.heap.size≤g1:=by rw[hg1];exact hl10
      have hl2:wr.heap.size≤g2:=by rw[hg2];exact hl20
      rw[←hg1] at HRA2 ⊢
      rw[←hg2] at HRB ⊢
      clear hg1 hg2 hne0 hl10 hl20
      have f0:=World.rowIs.frozen HRA2.out 0
      have f1:=World.rowIs.frozen HRA2.out 1
      have p0:=World.rowIs.cell HRA2.out (i:=0) (by decide)
      have p1:=World.rowIs.cell HRA2.out (i:=1) (by decide)
      refine par3_one 11 (by simp only[zga,zgb,zgc];rfl) (by kernel_rfl) (by rfl) ?_
      refine owp_skip (w1:= ?_) ?_ ?_
      rotate_left
      ·(go_simp;first|rfl|(constructor<;>rfl))
      refine⟨fun s _=>(s.setCell hl1 _).setCell hl1 _, ?_⟩
      simp only[Act.put,zpa,zpb,zpc]
      clear f0 f1 p0 p1
      have hh2:=rowIs_touch (F:=[g1]) HRB.out (((Touch.refl [g1] WB).setCell (p:=⟨g1,0,none⟩) (.inl (by simp)) (.int .i64 PA.x)).setCell (p:=⟨g1,1,none⟩) (.inl (by simp)) (.int .i64 PA.y)) (by simp;omega)
      have hh1:=World.rowIs.congr (g:=ptF PA) (World.rowIs.set (World.rowIs.set HRA2.out 0 (.int .i64 PA.x)) 1 (.int .i64 PA.y)) (fun i hi=>by rcases i with _|_|i<;>first|rfl|exact absurd hi (by omega))
      have hs1:=(HSB.out.setCell (p:=⟨g1,0,none⟩) hl1 (.int .i64 PA.x)).setCell (p:=⟨g1,1,none⟩) hl1 (.int .i64 PA.y)
      refine par3_nm (fun Wz hW9=> ?_)
      rw[←hW9] at hh1 hh2 hs1
      clear hW9
      have HH1:=Lib.hid hh1
      have HH2:=Lib.hid hh2
      have HSZ:=Lib.hid hs1
      clear hh1 hh2 hs1
      have f0:=World.rowIs.frozen HH2.out 0
      have f1:=World.rowIs.frozen HH2.out 1
      have p0:=World.rowIs.cell HH2.out (i:=0) (by decide)
      have p1:=World.rowIs.cell HH2.out (i:=1) (by decide)
      refine par3_tail _ (by simp only[List.drop_succ_cons,List.drop_zero];rfl) (by kernel_rfl) ?_
      go_wp2_with fail
      refine NoPanic.normal ?_
      go_step
      first|go_meet|(go_step;go_meet)
      refine⟨g1,g2,rfl,rfl,rowIs_touch (F:=[g2]) HH1.out (((Touch.refl _ _).setCell (.inl (by simp)) _).setCell (.inl (by simp)) _) (by simp;omega),World.rowIs.congr (World.rowIs.set (World.rowIs.set HH2.out 0 _) 1 _) (fun i hi=>by rcases i with _|_|i<;>first|rfl|exact absurd hi (by omega)),hne,hl1,hl2,(HSZ.out.setCell hl2 _).setCell hl2 _⟩
     ·refine owp_val (v:= ?_) (w1:= ?_) ?_ ?_
      rotate_left 2
      ·(go_simp;constructor<;>rfl)
      refine⟨fun s _=>s.alloc s.size _, ?_⟩
      simp only[Act.put,zpa,zpb,zpc]
      have HRA:=Lib.hid (show(W5.alloc (.cells #[.int .i64 0, .int .i64 0] 42)).rowIs W5.heap.size 42 2 (ptF ⟨0,0⟩) from World.rowIs_alloc W5 #[.int .i64 0, .int .i64 0] 42 (ptF ⟨0,0⟩) (ptF_get ⟨0,0⟩))
      have HSA:=Lib.hid (HS5.out.alloc HS5.out.size (.cells #[.int .i64 0, .int .i64 0] 42))
      have HZA:=Lib.hid (show W5.heap.size<(W5.alloc (.cells #[.int .i64 0, .int .i64 0] 42)).heap.size from by simp)
      refine par3_nm (fun WA hW9=> ?_)
      rw[←hW9] at HRA HSA HZA
      clear hW9
      refine par3_one 9 (by simp only[zga,zgb,zgc];rfl) (by kernel_rfl) (by rfl) ?_
      refine owp_val (v:= ?_) (w1:= ?_) ?_ ?_
      rotate_left 2
      ·(go_simp;constructor<;>rfl)
      refine⟨fun s _=>s.alloc s.size _, ?_⟩
      simp only[Act.put,zpa,zpb,zpc]
      have HRB:=Lib.hid (show(WA.alloc (.cells #[.int .i64 0, .int .i64 0] 42)).rowIs WA.heap.size 42 2 (ptF ⟨0,0⟩) from World.rowIs_alloc WA #[.int .i64 0, .int .i64 0] 42 (ptF ⟨0,0⟩) (ptF_get ⟨0,0⟩))
      have HSB:=Lib.hid (HSA.out.alloc HSA.out.size (.cells #[.int .i64 0, .int .i64 0] 42))
      have HZB:=Lib.hid (show WA.heap.size<(WA.alloc (.cells #[.int .i64 0, .int .i64 0] 42)).heap.size from by simp)
      have HRA2:=Lib.hid (World.rowIs.alloc HRA.out (.cells #[.int .i64 0, .int .i64 0] 42))
      refine par3_nm (fun WB hW9=> ?_)
      rw[←hW9] at HRB HSB HZB HRA2
      clear hW9
      have hne0:WA.heap.size≠W5.heap.size:=by have:=HZA.out;omega
      have hl10:wr.heap.size≤WA.heap.size:=HSA.out.size
      have hl20:wr.heap.size≤W5.heap.size:=HS5.out.size
      obtain⟨g1,hg1⟩: ∃g,g=WA.heap.size:=⟨_,rfl⟩
      obtain⟨g2,hg2⟩: ∃g,g=W5.heap.size:=⟨_,rfl⟩
      have hne:g1≠g2:=by rw[hg1,hg2];exact hne0
      have hl1:wr.heap.size≤g1:=by rw[hg1];exact hl10
      have hl2:wr.heap.size≤g2:=by rw[hg2];exact hl20
      rw[←hg1] at HRB ⊢
      rw[←hg2] at HRA2 ⊢
      clear hg1 hg2 hne0 hl10 hl20
      have f0:=World.rowIs.frozen HRB.out 0
      have f1:=World.rowIs.frozen HRB.out 1
      have p0:=World.rowIs.cell HRB.out (i:=0) (by decide)
      have p1:=World.rowIs.cell HRB.out (i:=1) (by decide)
      refine par3_one 11 (by simp only[zga,zgb,zgc];rfl) (by kernel_rfl) (by rfl) ?_
      refine owp_skip (w1:= ?_) ?_ ?_
      rotate_left
      ·(go_simp;first|rfl|(constructor<;>rfl))
      refine⟨fun s _=>(s.setCell hl1 _).setCell hl1 _, ?_⟩
      simp only[Act.put,zpa,zpb,zpc]
      clear f0 f1 p0 p1
      have hh2:=rowIs_touch (F:=[g1]) HRA2.out (((Touch.refl [g1] WB).setCell (p:=⟨g1,0,none⟩) (.inl (by simp)) (.int .i64 PA.x)).setCell (p:=⟨g1,1,none⟩) (.inl (by simp)) (.int .i64 PA.y)) (by simp;omega)
      have hh1:=World.rowIs.congr (g:=ptF PA) (World.rowIs.set (World.rowIs.set HRB.out 0 (.int .i64 PA.x)) 1 (.int .i64 PA.y)) (fun i hi=>by rcases i with _|_|i<;>first|rfl|exact absurd hi (by omega))
      have hs1:=(HSB.out.setCell (p:=⟨g1,0,none⟩) hl1 (.int .i64 PA.x)).setCell (p:=⟨g1,1,none⟩) hl1 (.int .i64 PA.y)
      refine par3_nm (fun Wz hW9=> ?_)
      rw[←hW9] at hh1 hh2 hs1
      clear hW9
      have HH1:=Lib.hid hh1
      have HH2:=Lib.hid hh2
      have HSZ:=Lib.hid hs1
      clear hh1 hh2 hs1
      have f0:=World.rowIs.frozen HH2.out 0
      have f1:=World.rowIs.frozen HH2.out 1
      have p0:=World.rowIs.cell HH2.out (i:=0) (by decide)
      have p1:=World.rowIs.cell HH2.out (i:=1) (by decide)
      refine par3_tail _ (by simp only[List.drop_succ_cons,List.drop_zero];rfl) (by kernel_rfl) ?_
      go_wp2_with fail
      refine NoPanic.normal ?_
      go_step
      first|go_meet|(go_step;go_meet)
      refine⟨g1,g2,rfl,rfl,rowIs_touch (F:=[g2]) HH1.out (((Touch.refl _ _).setCell (.inl (by simp)) _).setCell (.inl (by simp)) _) (by simp;omega),World.rowIs.congr (World.rowIs.set (World.rowIs.set HH2.out 0 _) 1 _) (fun i hi=>by rcases i with _|_|i<;>first|rfl|exact absurd hi (by omega)),hne,hl1,hl2,(HSZ.out.setCell hl2 _).setCell hl2 _⟩
    ·refine owp_val (v:= ?_) (w1:= ?_) ?_ ?_
     rotate_left 2
     ·(go_simp;constructor<;>rfl)
     refine⟨fun s _=>s.alloc s.size _, ?_⟩
     simp only[Act.put,zpa,zpb,zpc]
     have HRA:=Lib.hid (show(W0.alloc (.cells #[.int .i64 0, .int .i64 0] 42)).rowIs W0.heap.size 42 2 (ptF ⟨0,0⟩) from World.rowIs_alloc W0 #[.int .i64 0, .int .i64 0] 42 (ptF ⟨0,0⟩) (ptF_get ⟨0,0⟩))
     have HSA:=Lib.hid (HS0.out.alloc HS0.out.size (.cells #[.int .i64 0, .int .i64 0] 42))
     have HZA:=Lib.hid (show W0.heap.size<(W0.alloc (.cells #[.int .i64 0, .int .i64 0] 42)).heap.size from by simp)
     refine par3_nm (fun WA hW9=> ?_)
     rw[←hW9] at HRA HSA HZA
     clear hW9
     refine par3_two 5 10 (by simp only[zga,zgb,zgc];rfl) (by simp only[zga,zgb,zgc];rfl) (by kernel_rfl) (by rfl) (by rfl) ?_ ?_
     ·refine owp_call (by go_simp;constructor<;>rfl) ?_
      refine(HEN _ (HX.out.trans (HSA.out.mono HX.out.size))).out.mono ?_
      rintro x W5 ⟨rfl,hb9⟩
      have HS5:=Lib.hid (below_next HSA.out HSA.out.size hb9)
      have HZ5:=Lib.hid hb9.size
      refine⟨_,rfl,fun s _=>HS5.out, ?_⟩
      simp only[Act.put,zpa,zpb,zpc]
      refine par3_move (v:= ?_) 6 (by simp only[zga,zgb,zgc];rfl) (by kernel_rfl) (by rfl) ?_ (fun _ _ _ h=>h) ?_
      rotate_left
      ·(intro w9;go_simp;try with_reducible rfl)
      simp only[Act.put,zpa,zpb,zpc]
      refine par3_move (v:= ?_) 7 (by simp only[zga,zgb,zgc];rfl) (by kernel_rfl) (by rfl) ?_ (fun _ _ _ h=>h) ?_
      rotate_left
      ·(intro w9;go_simp;try with_reducible rfl)
      simp only[Act.put,zpa,zpb,zpc]
      refine par3_move (v:= ?_) 8 (by simp only[zga,zgb,zgc];rfl) (by kernel_rfl) (by rfl) ?_ (fun _ _ _ h=>h) ?_
      rotate_left
      ·(intro w9;go_simp;try with_reducible rfl)
      simp only[Act.put,zpa,zpb,zpc]
      have HRC:=Lib.hid (rowIs_touch HRA.out (Touch.of_below (F:=[]) hb9) (by simp))
      clear hb9
      refine par3_one 10 (by simp only[zga,zgb,zgc];rfl) (by kernel_rfl) (by rfl) ?_
      refine owp_val (v:= ?_) (w1:= ?_) ?_ ?_
      rotate_left 2
      ·(go_simp;constructor<;>rfl)
      refine⟨fun s _=>s.alloc s.size _, ?_⟩
      simp only[Act.put,zpa,zpb,zpc]
      have HRB:=Lib.hid (show(W5.alloc (.cells #[.int .i64 0, .int .i64 0] 42)).rowIs W5.heap.size 42 2 (ptF ⟨0,0⟩) from World.rowIs_alloc W5 #[.int .i64 0, .int .i64 0] 42 (ptF ⟨0,0⟩) (ptF_get ⟨0,0⟩))
      have HSB:=Lib.hid (HS5.out.alloc HS5.out.size (.cells #[.int .i64 0, .int .i64 0] 42))
      have HZB:=Lib.hid (show W5.heap.size<(W5.alloc (.cells #[.int .i64 0, .int .i64 0] 42)).heap.size from by simp)
      have HRA2:=Lib.hid (World.rowIs.alloc HRC.out (.cells #[.int .i64 0, .int .i64 0] 42))
      refine par3_nm (fun WB hW9=> ?_)
      rw[←hW9] at HRB HSB HZB HRA2
      clear hW9
      have hne0:W0.heap.size≠W5.heap.size:=by have:=HZA.out;have:=HZ5.out;omega
      have hl10:wr.heap.size≤W0.heap.size:=HS0.out.size
      have hl20:wr.heap.size≤W5.heap.size:=HS5.out.size
      obtain⟨g1,hg1⟩: ∃g,g=W0.heap.size:=⟨_,rfl⟩
      obtain⟨g2,hg2⟩: ∃g,g=W5.heap.size:=⟨_,rfl⟩
      have hne:g1≠g2:=by rw[hg1,hg2];exact hne0
      have hl1:wr.heap.size≤g1:=by rw[hg1];exact hl10
      have hl2:wr.heap.size≤g2:=by rw[hg2];exact hl20
      rw[←hg1] at HRA2 ⊢
      rw[←hg2] at HRB ⊢
      clear hg1 hg2 hne0 hl10 hl20
      have f0:=World.rowIs.frozen HRA2.out 0
      have f1:=World.rowIs.frozen HRA2.out 1
      have p0:=World.rowIs.cell HRA2.out (i:=0) (by decide)
      have p1:=World.rowIs.cell HRA2.out (i:=1) (by decide)
      refine par3_one 11 (by simp only[zga,zgb,zgc];rfl) (by kernel_rfl) (by rfl) ?_
      refine owp_skip (w1:= ?_) ?_ ?_
      rotate_left
      ·(go_simp;first|rfl|(constructor<;>rfl))
      refine⟨fun s _=>(s.setCell hl1 _).setCell hl1 _, ?_⟩
      simp only[Act.put,zpa,zpb,zpc]
      clear f0 f1 p0 p1
      have hh2:=rowIs_touch (F:=[g1]) HRB.out (((Touch.refl [g1] WB).setCell (p:=⟨g1,0,none⟩) (.inl (by simp)) (.int .i64 PA.x)).setCell (p:=⟨g1,1,none⟩) (.inl (by simp)) (.int .i64 PA.y)) (by simp;omega)
      have hh1:=World.rowIs.congr (g:=ptF PA) (World.rowIs.set (World.rowIs.set HRA2.out 0 (.int .i64 PA.x)) 1 (.int .i64 PA.y)) (fun i hi=>by rcases i with _|_|i<;>first|rfl|exact absurd hi (by omega))
      have hs1:=(HSB.out.setCell (p:=⟨g1,0,none⟩) hl1 (.int .i64 PA.x)).setCell (p:=⟨g1,1,none⟩) hl1 (.int .i64 PA.y)
      refine par3_nm (fun Wz hW9=> ?_)
      rw[←hW9] at hh1 hh2 hs1
      clear hW9
      have HH1:=Lib.hid hh1
      have HH2:=Lib.hid hh2
      have HSZ:=Lib.hid hs1
      clear hh1 hh2 hs1
      have f0:=World.rowIs.frozen HH2.out 0
      have f1:=World.rowIs.frozen HH2.out 1
      have p0:=World.rowIs.cell HH2.out (i:=0) (by decide)
      have p1:=World.rowIs.cell HH2.out (i:=1) (by decide)
      refine par3_tail _ (by simp only[List.drop_succ_cons,List.drop_zero];rfl) (by kernel_rfl) ?_
      go_wp2_with fail
      refine NoPanic.normal ?_
      go_step
      first|go_meet|(go_step;go_meet)
      refine⟨g1,g2,rfl,rfl,rowIs_touch (F:=[g2]) HH1.out (((Touch.refl _ _).setCell (.inl (by simp)) _).setCell (.inl (by simp)) _) (by simp;omega),World.rowIs.congr (World.rowIs.set (World.rowIs.set HH2.out 0 _) 1 _) (fun i hi=>by rcases i with _|_|i<;>first|rfl|exact absurd hi (by omega)),hne,hl1,hl2,(HSZ.out.setCell hl2 _).setCell hl2 _⟩
     ·refine owp_val (v:= ?_) (w1:= ?_) ?_ ?_
      rotate_left 2
      ·(go_simp;constructor<;>rfl)
      refine⟨fun s _=>s.alloc s.size _, ?_⟩
      simp only[Act.put,zpa,zpb,zpc]
      have HRB:=Lib.hid (show(WA.alloc (.cells #[.int .i64 0, .int .i64 0] 42)).rowIs WA.heap.size 42 2 (ptF ⟨0,0⟩) from World.rowIs_alloc WA #[.int .i64 0, .int .i64 0] 42 (ptF ⟨0,0⟩) (ptF_get ⟨0,0⟩))
      have HSB:=Lib.hid (HSA.out.alloc HSA.out.size (.cells #[.int .i64 0, .int .i64 0] 42))
      have HZB:=Lib.hid (show WA.heap.size<(WA.alloc (.cells #[.int .i64 0, .int .i64 0] 42)).heap.size from by simp)
      have HRA2:=Lib.hid (World.rowIs.alloc HRA.out (.cells #[.int .i64 0, .int .i64 0] 42))
      refine par3_nm (fun WB hW9=> ?_)
      rw[←hW9] at HRB HSB HZB HRA2
      clear hW9
      refine par3_one 5 (by simp only[zga,zgb,zgc];rfl) (by kernel_rfl) (by rfl) ?_
      refine owp_call (by go_simp;constructor<;>rfl) ?_
      refine(HEN _ (HX.out.trans (HSB.out.mono HX.out.size))).out.mono ?_
      rintro x W5 ⟨rfl,hb9⟩
      have HS5:=Lib.hid (below_next HSB.out HSB.out.size hb9)
      have HZ5:=Lib.hid hb9.size
      refine⟨_,rfl,fun s _=>HS5.out, ?_⟩
      simp only[Act.put,zpa,zpb,zpc]
      refine par3_move (v:= ?_) 6 (by simp only[zga,zgb,zgc];rfl) (by kernel_rfl) (by rfl) ?_ (fun _ _ _ h=>h) ?_
      rotate_left
      ·(intro w9;go_simp;try with_reducible rfl)
      simp only[Act.put,zpa,zpb,zpc]
      refine par3_move (v:= ?_) 7 (by simp only[zga,zgb,zgc];rfl) (by kernel_rfl) (by rfl) ?_ (fun _ _ _ h=>h) ?_
      rotate_left
      ·(intro w9;go_simp;try with_reducible rfl)
      simp only[Act.put,zpa,zpb,zpc]
      refine par3_move (v:= ?_) 8 (by simp only[zga,zgb,zgc];rfl) (by kernel_rfl) (by rfl) ?_ (fun _ _ _ h=>h) ?_
      rotate_left
      ·(intro w9;go_simp;try with_reducible rfl)
      simp only[Act.put,zpa,zpb,zpc]
      have HRA3:=Lib.hid (rowIs_touch HRA2.out (Touch.of_below (F:=[]) hb9) (by simp))
      have HRB3:=Lib.hid (rowIs_touch HRB.out (Touch.of_below (F:=[]) hb9) (by simp))
      clear hb9
      have hne0:W0.heap.size≠WA.heap.size:=by have:=HZA.out;omega
      have hl10:wr.heap.size≤W0.heap.size:=HS0.out.size
      have hl20:wr.heap.size≤WA.heap.size:=HSA.out.size
      obtain⟨g1,hg1⟩: ∃g,g=W0.heap.size:=⟨_,rfl⟩
      obtain⟨g2,hg2⟩: ∃g,g=WA.heap.size:=⟨_,rfl⟩
      have hne:g1≠g2:=by rw[hg1,hg2];exact hne0
      have hl1:wr.heap.size≤g1:=by rw[hg1];exact hl10
      have hl2:wr.heap.size≤g2:=by rw[hg2];exact hl20
      rw[←hg1] at HRA3 ⊢
      rw[←hg2] at HRB3 ⊢
      clear hg1 hg2 hne0 hl10 hl20
      have f0:=World.rowIs.frozen HRA3.out 0
      have f1:=World.rowIs.frozen HRA3.out 1
      have p0:=World.rowIs.cell HRA3.out (i:=0) (by decide)
      have p1:=World.rowIs.cell HRA3.out (i:=1) (by decide)
      refine par3_one 11 (by simp only[zga,zgb,zgc];rfl) (by kernel_rfl) (by rfl) ?_
      refine owp_skip (w1:= ?_) ?_ ?_
      rotate_left
      ·(go_simp;first|rfl|(constructor<;>rfl))
      refine⟨fun s _=>(s.setCell hl1 _).setCell hl1 _, ?_⟩
      simp only[Act.put,zpa,zpb,zpc]
      clear f0 f1 p0 p1
      have hh2:=rowIs_touch (F:=[g1]) HRB3.out (((Touch.refl [g1] W5).setCell (p:=⟨g1,0,none⟩) (.inl (by simp)) (.int .i64 PA.x)).setCell (p:=⟨g1,1,none⟩) (.inl (by simp)) (.int .i64 PA.y)) (by simp;omega)
      have hh1:=World.rowIs.congr (g:=ptF PA) (World.rowIs.set (World.rowIs.set HRA3.out 0 (.int .i64 PA.x)) 1 (.int .i64 PA.y)) (fun i hi=>by rcases i with _|_|i<;>first|rfl|exact absurd hi (by omega))
      have hs1:=(HS5.out.setCell (p:=⟨g1,0,none⟩) hl1 (.int .i64 PA.x)).setCell (p:=⟨g1,1,none⟩) hl1 (.int .i64 PA.y)
      refine par3_nm (fun Wz hW9=> ?_)
      rw[←hW9] at hh1 hh2 hs1
      clear hW9
      have HH1:=Lib.hid hh1
      have HH2:=Lib.hid hh2
      have HSZ:=Lib.hid hs1
      clear hh1 hh2 hs1
      have f0:=World.rowIs.frozen HH2.out 0
      have f1:=World.rowIs.frozen HH2.out 1
      have p0:=World.rowIs.cell HH2.out (i:=0) (by decide)
      have p1:=World.rowIs.cell HH2.out (i:=1) (by decide)
      refine par3_tail _ (by simp only[List.drop_succ_cons,List.drop_zero];rfl) (by kernel_rfl) ?_
      go_wp2_with fail
      refine NoPanic.normal ?_
      go_step
      first|go_meet|(go_step;go_meet)
      refine⟨g1,g2,rfl,rfl,rowIs_touch (F:=[g2]) HH1.out (((Touch.refl _ _).setCell (.inl (by simp)) _).setCell (.inl (by simp)) _) (by simp;omega),World.rowIs.congr (World.rowIs.set (World.rowIs.set HH2.out 0 _) 1 _) (fun i hi=>by rcases i with _|_|i<;>first|rfl|exact absurd hi (by omega)),hne,hl1,hl2,(HSZ.out.setCell hl2 _).setCell hl2 _⟩
    ·refine owp_val (v:= ?_) (w1:= ?_) ?_ ?_
     rotate_left 2
     ·(go_simp;constructor<;>rfl)
     refine⟨fun s _=>s.alloc s.size _, ?_⟩
     simp only[Act.put,zpa,zpb,zpc]
     have HRA:=Lib.hid (show(W0.alloc (.cells #[.int .i64 0, .int .i64 0] 42)).rowIs W0.heap.size 42 2 (ptF ⟨0,0⟩) from World.rowIs_alloc W0 #[.int .i64 0, .int .i64 0] 42 (ptF ⟨0,0⟩) (ptF_get ⟨0,0⟩))
     have HSA:=Lib.hid (HS0.out.alloc HS0.out.size (.cells #[.int .i64 0, .int .i64 0] 42))
     have HZA:=Lib.hid (show W0.heap.size<(W0.alloc (.cells #[.int .i64 0, .int .i64 0] 42)).heap.size from by simp)
     refine par3_nm (fun WA hW9=> ?_)
     rw[←hW9] at HRA HSA HZA
     clear hW9
     refine par3_two 5 9 (by simp only[zga,zgb,zgc];rfl) (by simp only[zga,zgb,zgc];rfl) (by kernel_rfl) (by rfl) (by rfl) ?_ ?_
     ·refine owp_call (by go_simp;constructor<;>rfl) ?_
      refine(HEN _ (HX.out.trans (HSA.out.mono HX.out.size))).out.mono ?_
      rintro x W5 ⟨rfl,hb9⟩
      have HS5:=Lib.hid (below_next HSA.out HSA.out.size hb9)
      have HZ5:=Lib.hid hb9.size
      refine⟨_,rfl,fun s _=>HS5.out, ?_⟩
      simp only[Act.put,zpa,zpb,zpc]
      refine par3_move (v:= ?_) 6 (by simp only[zga,zgb,zgc];rfl) (by kernel_rfl) (by rfl) ?_ (fun _ _ _ h=>h) ?_
      rotate_left
      ·(intro w9;go_simp;try with_reducible rfl)
      simp only[Act.put,zpa,zpb,zpc]
      refine par3_move (v:= ?_) 7 (by simp only[zga,zgb,zgc];rfl) (by kernel_rfl) (by rfl) ?_ (fun _ _ _ h=>h) ?_
      rotate_left
      ·(intro w9;go_simp;try with_reducible rfl)
      simp only[Act.put,zpa,zpb,zpc]
      refine par3_move (v:= ?_) 8 (by simp only[zga,zgb,zgc];rfl) (by kernel_rfl) (by rfl) ?_ (fun _ _ _ h=>h) ?_
      rotate_left
      ·(intro w9;go_simp;try with_reducible rfl)
      simp only[Act.put,zpa,zpb,zpc]
      have HRC:=Lib.hid (rowIs_touch HRA.out (Touch.of_below (F:=[]) hb9) (by simp))
      clear hb9
      refine par3_one 9 (by simp only[zga,zgb,zgc];rfl) (by kernel_rfl) (by rfl) ?_
      refine owp_val (v:= ?_) (w1:= ?_) ?_ ?_
      rotate_left 2
      ·(go_simp;constructor<;>rfl)
      refine⟨fun s _=>s.alloc s.size _, ?_⟩
      simp only[Act.put,zpa,zpb,zpc]
      have HRB:=Lib.hid (show(W5.alloc (.cells #[.int .i64 0, .int .i64 0] 42)).rowIs W5.heap.size 42 2 (ptF ⟨0,0⟩) from World.rowIs_alloc W5 #[.int .i64 0, .int .i64 0] 42 (ptF ⟨0,0⟩) (ptF_get ⟨0,0⟩))
      have HSB:=Lib.hid (HS5.out.alloc HS5.out.size (.cells #[.int .i64 0, .int .i64 0] 42))
      have HZB:=Lib.hid (show W5.heap.size<(W5.alloc (.cells #[.int .i64 0, .int .i64 0] 42)).heap.size from by simp)
      have HRA2:=Lib.hid (World.rowIs.alloc HRC.out (.cells #[.int .i64 0, .int .i64 0] 42))
      refine par3_nm (fun WB hW9=> ?_)
      rw[←hW9] at HRB HSB HZB HRA2
      clear hW9
      have hne0:W5.heap.size≠W0.heap.size:=by have:=HZA.out;have:=HZ5.out;omega
      have hl10:wr.heap.size≤W5.heap.size:=HS5.out.size
      have hl20:wr.heap.size≤W0.heap.size:=HS0.out.size
      obtain⟨g1,hg1⟩: ∃g,g=W5.heap.size:=⟨_,rfl⟩
      obtain⟨g2,hg2⟩: ∃g,g=W0.heap.size:=⟨_,rfl⟩
      have hne:g1≠g2:=by rw[hg1,hg2];exact hne0
      have hl1:wr.heap.size≤g1:=by rw[hg1];exact hl10
      have hl2:wr.heap.size≤g2:=by rw[hg2];exact hl20
      rw[←hg1] at HRB ⊢
      rw[←hg2] at HRA2 ⊢
      clear hg1 hg2 hne0 hl10 hl20
      have f0:=World.rowIs.frozen HRB.out 0
      have f1:=World.rowIs.frozen HRB.out 1
      have p0:=World.rowIs.cell HRB.out (i:=0) (by decide)
      have p1:=World.rowIs.cell HRB.out (i:=1) (by decide)
      refine par3_one 11 (by simp only[zga,zgb,zgc];rfl) (by kernel_rfl) (by rfl) ?_
      refine owp_skip (w1:= ?_) ?_ ?_
      rotate_left
      ·(go_simp;first|rfl|(constructor<;>rfl))
      refine⟨fun s _=>(s.setCell hl1 _).setCell hl1 _, ?_⟩
      simp only[Act.put,zpa,zpb,zpc]
      clear f0 f1 p0 p1
      have hh2:=rowIs_touch (F:=[g1]) HRA2.out (((Touch.refl [g1] WB).setCell (p:=⟨g1,0,none⟩) (.inl (by simp)) (.int .i64 PA.x)).setCell (p:=⟨g1,1,none⟩) (.inl (by simp)) (.int .i64 PA.y)) (by simp;omega)
      have hh1:=World.rowIs.congr (g:=ptF PA) (World.rowIs.set (World.rowIs.set HRB.out 0 (.int .i64 PA.x)) 1 (.int .i64 PA.y)) (fun i hi=>by rcases i with _|_|i<;>first|rfl|exact absurd hi (by omega))
      have hs1:=(HSB.out.setCell (p:=⟨g1,0,none⟩) hl1 (.int .i64 PA.x)).setCell (p:=⟨g1,1,none⟩) hl1 (.int .i64 PA.y)
      refine par3_nm (fun Wz hW9=> ?_)
      rw[←hW9] at hh1 hh2 hs1
      clear hW9
      have HH1:=Lib.hid hh1
      have HH2:=Lib.hid hh2
      have HSZ:=Lib.hid hs1
      clear hh1 hh2 hs1
      have f0:=World.rowIs.frozen HH2.out 0
      have f1:=World.rowIs.frozen HH2.out 1
      have p0:=World.rowIs.cell HH2.out (i:=0) (by decide)
      have p1:=World.rowIs.cell HH2.out (i:=1) (by decide)
      refine par3_tail _ (by simp only[List.drop_succ_cons,List.drop_zero];rfl) (by kernel_rfl) ?_
      go_wp2_with fail
      refine NoPanic.normal ?_
      go_step
      first|go_meet|(go_step;go_meet)
      refine⟨g1,g2,rfl,rfl,rowIs_touch (F:=[g2]) HH1.out (((Touch.refl _ _).setCell (.inl (by simp)) _).setCell (.inl (by simp)) _) (by simp;omega),World.rowIs.congr (World.rowIs.set (World.rowIs.set HH2.out 0 _) 1 _) (fun i hi=>by rcases i with _|_|i<;>first|rfl|exact absurd hi (by omega)),hne,hl1,hl2,(HSZ.out.setCell hl2 _).setCell hl2 _⟩
     ·refine owp_val (v:= ?_) (w1:= ?_) ?_ ?_
      rotate_left 2
      ·(go_simp;constructor<;>rfl)
      refine⟨fun s _=>s.alloc s.size _, ?_⟩
      simp only[Act.put,zpa,zpb,zpc]
      have HRB:=Lib.hid (show(WA.alloc (.cells #[.int .i64 0, .int .i64 0] 42)).rowIs WA.heap.size 42 2 (ptF ⟨0,0⟩) from World.rowIs_alloc WA #[.int .i64 0, .int .i64 0] 42 (ptF ⟨0,0⟩) (ptF_get ⟨0,0⟩))
      have HSB:=Lib.hid (HSA.out.alloc HSA.out.size (.cells #[.int .i64 0, .int .i64 0] 42))
      have HZB:=Lib.hid (show WA.heap.size<(WA.alloc (.cells #[.int .i64 0, .int .i64 0] 42)).heap.size from by simp)
      have HRA2:=Lib.hid (World.rowIs.alloc HRA.out (.cells #[.int .i64 0, .int .i64 0] 42))
      refine par3_nm (fun WB hW9=> ?_)
      rw[←hW9] at HRB HSB HZB HRA2
      clear hW9
      refine par3_one 5 (by simp only[zga,zgb,zgc];rfl) (by kernel_rfl) (by rfl) ?_
      refine owp_call (by go_simp;constructor<;>rfl) ?_
      refine(HEN _ (HX.out.trans (HSB.out.mono HX.out.size))).out.mono ?_
      rintro x W5 ⟨rfl,hb9⟩
      have HS5:=Lib.hid (below_next HSB.out HSB.out.size hb9)
      have HZ5:=Lib.hid hb9.size
      refine⟨_,rfl,fun s _=>HS5.out, ?_⟩
      simp only[Act.put,zpa,zpb,zpc]
      refine par3_move (v:= ?_) 6 (by simp only[zga,zgb,zgc];rfl) (by kernel_rfl) (by rfl) ?_ (fun _ _ _ h=>h) ?_
      rotate_left
      ·(intro w9;go_simp;try with_reducible rfl)
      simp only[Act.put,zpa,zpb,zpc]
      refine par3_move (v:= ?_) 7 (by simp only[zga,zgb,zgc];rfl) (by kernel_rfl) (by rfl) ?_ (fun _ _ _ h=>h) ?_
      rotate_left
      ·(intro w9;go_simp;try with_reducible rfl)
      simp only[Act.put,zpa,zpb,zpc]
      refine par3_move (v:= ?_) 8 (by simp only[zga,zgb,zgc];rfl) (by kernel_rfl) (by rfl) ?_ (fun _ _ _ h=>h) ?_
      rotate_left
      ·(intro w9;go_simp;try with_reducible rfl)
      simp only[Act.put,zpa,zpb,zpc]
      have HRA3:=Lib.hid (rowIs_touch HRA2.out (Touch.of_below (F:=[]) hb9) (by simp))
      have HRB3:=Lib.hid (rowIs_touch HRB.out (Touch.of_below (F:=[]) hb9) (by simp))
      clear hb9
      have hne0:WA.heap.size≠W0.heap.size:=by have:=HZA.out;omega
      have hl10:wr.heap.size≤WA.heap.size:=HSA.out.size
      have hl20:wr.heap.size≤W0.heap.size:=HS0.out.size
      obtain⟨g1,hg1⟩: ∃g,g=WA.heap.size:=⟨_,rfl⟩
      obtain⟨g2,hg2⟩: ∃g,g=W0.heap.size:=⟨_,rfl⟩
      have hne:g1≠g2:=by rw[hg1,hg2];exact hne0
      have hl1:wr.heap.size≤g1:=by rw[hg1];exact hl10
      have hl2:wr.heap.size≤g2:=by rw[hg2];exact hl20
      rw[←hg1] at HRB3 ⊢
      rw[←hg2] at HRA3 ⊢
      clear hg1 hg2 hne0 hl10 hl20
      have f0:=World.rowIs.frozen HRB3.out 0
      have f1:=World.rowIs.frozen HRB3.out 1
      have p0:=World.rowIs.cell HRB3.out (i:=0) (by decide)
      have p1:=World.rowIs.cell HRB3.out (i:=1) (by decide)
      refine par3_one 11 (by simp only[zga,zgb,zgc];rfl) (by kernel_rfl) (by rfl) ?_
      refine owp_skip (w1:= ?_) ?_ ?_
      rotate_left
      ·(go_simp;first|rfl|(constructor<;>rfl))
      refine⟨fun s _=>(s.setCell hl1 _).setCell hl1 _, ?_⟩
      simp only[Act.put,zpa,zpb,zpc]
      clear f0 f1 p0 p1
      have hh2:=rowIs_touch (F:=[g1]) HRA3.out (((Touch.refl [g1] W5).setCell (p:=⟨g1,0,none⟩) (.inl (by simp)) (.int .i64 PA.x)).setCell (p:=⟨g1,1,none⟩) (.inl (by simp)) (.int .i64 PA.y)) (by simp;omega)
      have hh1:=World.rowIs.congr (g:=ptF PA) (World.rowIs.set (World.rowIs.set HRB3.out 0 (.int .i64 PA.x)) 1 (.int .i64 PA.y)) (fun i hi=>by rcases i with _|_|i<;>first|rfl|exact absurd hi (by omega))
      have hs1:=(HS5.out.setCell (p:=⟨g1,0,none⟩) hl1 (.int .i64 PA.x)).setCell (p:=⟨g1,1,none⟩) hl1 (.int .i64 PA.y)
      refine par3_nm (fun Wz hW9=> ?_)
      rw[←hW9] at hh1 hh2 hs1
      clear hW9
      have HH1:=Lib.hid hh1
      have HH2:=Lib.hid hh2
      have HSZ:=Lib.hid hs1
      clear hh1 hh2 hs1
      have f0:=World.rowIs.frozen HH2.out 0
      have f1:=World.rowIs.frozen HH2.out 1
      have p0:=World.rowIs.cell HH2.out (i:=0) (by decide)
      have p1:=World.rowIs.cell HH2.out (i:=1) (by decide)
      refine par3_tail _ (by simp only[List.drop_succ_cons,List.drop_zero];rfl) (by kernel_rfl) ?_
      go_wp2_with fail
      refine NoPanic.normal ?_
      go_step
      first|go_meet|(go_step;go_meet)
      refine⟨g1,g2,rfl,rfl,rowIs_touch (F:=[g2]) HH1.out (((Touch.refl _ _).setCell (.inl (by simp)) _).setCell (.inl (by simp)) _) (by simp;omega),World.rowIs.congr (World.rowIs.set (World.rowIs.set HH2.out 0 _) 1 _) (fun i hi=>by rcases i with _|_|i<;>first|rfl|exact absurd hi (by omega)),hne,hl1,hl2,(HSZ.out.setCell hl2 _).setCell hl2 _⟩
   case rest=>
   obtain⟨g1,g2,rfl,rfl,hr1,hr2,hne,hg1,hg2,hb⟩:=hcut
   have HR1:=Lib.hid hr1
   have HR2:=Lib.hid hr2
   have HB:=Lib.hid (HB.out.trans (hb.mono HB.out.size))
   clear hr1 hr2 hne hg1 hg2 hb
   obtain⟨t,ht⟩: ∃t,t=trn PA PB q:=⟨_,rfl⟩
   rw[←ht] at HT5
   have HTT:=Lib.hid ht
   clear ht
   clear qx0 qx1 qx2 qx3 rx0 rx1
   obtain⟨qx0,qx1,qx2,qx3⟩:=(HC _ HB.out).out
   obtain⟨rx0,rx1⟩:=(HZ _ HB.out.size).out
   have a0:wc.cell? ⟨g1,0,none⟩=some (.int .i64 PA.x):=World.rowIs.cell HR1.out (i:=0) (by decide)
   have a1:wc.cell? ⟨g1,1,none⟩=some (.int .i64 PA.y):=World.rowIs.cell HR1.out (i:=1) (by decide)
   have b0:wc.cell? ⟨g2,0,none⟩=some (.int .i64 PB.x):=World.rowIs.cell HR2.out (i:=0) (by decide)
   have b1:wc.cell? ⟨g2,1,none⟩=some (.int .i64 PB.y):=World.rowIs.cell HR2.out (i:=1) (by decide)
   cases hth:wthR q PA PB
   ·rw[hth] at HW5
    have HTH:=Lib.hid hth
    clear hth
    go_wp2_with fail
    refine(HW5 _).out.mono ?_
    rintro e w5 ⟨rfl,hb9⟩
    have HR1:=Lib.hid (rowIs_touch HR1.out (Touch.of_below (F:=[]) hb9) (by simp))
    have HR2:=Lib.hid (rowIs_touch HR2.out (Touch.of_below (F:=[]) hb9) (by simp))
    have HB:=Lib.hid (below_next HB.out (Nat.le_trans HBW.out HB.out.size) hb9)
    clear hb9 a0 a1 b0 b1
    clear qx0 qx1 qx2 qx3 rx0 rx1
    obtain⟨qx0,qx1,qx2,qx3⟩:=(HC _ HB.out).out
    obtain⟨rx0,rx1⟩:=(HZ _ HB.out.size).out
    have a0:w5.cell? ⟨g1,0,none⟩=some (.int .i64 PA.x):=World.rowIs.cell HR1.out (i:=0) (by decide)
    have a1:w5.cell? ⟨g1,1,none⟩=some (.int .i64 PA.y):=World.rowIs.cell HR1.out (i:=1) (by decide)
    have b0:w5.cell? ⟨g2,0,none⟩=some (.int .i64 PB.x):=World.rowIs.cell HR2.out (i:=0) (by decide)
    have b1:w5.cell? ⟨g2,1,none⟩=some (.int .i64 PB.y):=World.rowIs.cell HR2.out (i:=1) (by decide)
    by_cases c1:PA.y≤q.y
    ·have c1': ¬q.y<PA.y:=by omega
     by_cases c2:q.y<PB.y
     ·go_wp2_with fail
      refine(HT5 _).out.mono ?_
      rintro e w6 ⟨rfl,hb9⟩
      have HR1:=Lib.hid (rowIs_touch HR1.out (Touch.of_below (F:=[]) hb9) (by simp))
      have HR2:=Lib.hid (rowIs_touch HR2.out (Touch.of_below (F:=[]) hb9) (by simp))
      have HB:=Lib.hid (below_next HB.out (Nat.le_trans HBW.out HB.out.size) hb9)
      clear hb9 a0 a1 b0 b1
      clear qx0 qx1 qx2 qx3 rx0 rx1
      obtain⟨qx0,qx1,qx2,qx3⟩:=(HC _ HB.out).out
      obtain⟨rx0,rx1⟩:=(HZ _ HB.out.size).out
      have a0:w6.cell? ⟨g1,0,none⟩=some (.int .i64 PA.x):=World.rowIs.cell HR1.out (i:=0) (by decide)
      have a1:w6.cell? ⟨g1,1,none⟩=some (.int .i64 PA.y):=World.rowIs.cell HR1.out (i:=1) (by decide)
      have b0:w6.cell? ⟨g2,0,none⟩=some (.int .i64 PB.x):=World.rowIs.cell HR2.out (i:=0) (by decide)
      have b1:w6.cell? ⟨g2,1,none⟩=some (.int .i64 PB.y):=World.rowIs.cell HR2.out (i:=1) (by decide)
      by_cases c3:0<t
      ·go_wp2_with fail
       go_roundw
       case rel=>
        refine⟨k+1,(m+1),by omega,by omega,by go_num,by go_num, ?_,HB.out⟩
        have hz:=HWI.out
        rw[HDR.out,withinR_no (r:=true) HTH.out (by unfold rayR;rw[←HTT.out];simp;omega)] at hz
        exact hz
       case measure=>simp[intOf];omega
      ·go_wp2_with fail
       go_roundw
       case rel=>
        refine⟨k+1,m,by omega,by omega,by go_num,by go_num, ?_,HB.out⟩
        have hz:=HWI.out
        rw[HDR.out,withinR_no (r:=false) HTH.out (by unfold rayR;rw[←HTT.out];simp;omega)] at hz
        exact hz
       case measure=>simp[intOf];omega
     ·go_wp2_with fail
      go_roundw
      case rel=>
       refine⟨k+1,m,by omega,by omega,by go_num,by go_num, ?_,HB.out⟩
       have hz:=HWI.out
       rw[HDR.out,withinR_no (r:=false) HTH.out (by unfold rayR;rw[←HTT.out];simp;omega)] at hz
       exact hz
      case measure=>simp[intOf];omega
    ·have c1':q.y<PA.y:=by omega
     by_cases c2:PB.y≤q.y
     ·go_wp2_with fail
      refine(HT5 _).out.mono ?_
      rintro e w6 ⟨rfl,hb9⟩
      have HR1:=Lib.hid (rowIs_touch HR1.out (Touch.of_below (F:=[]) hb9) (by simp))
      have HR2:=Lib.hid (rowIs_touch HR2.out (Touch.of_below (F:=[]) hb9) (by simp))
      have HB:=Lib.hid (below_next HB.out (Nat.le_trans HBW.out HB.out.size) hb9)
      clear hb9 a0 a1 b0 b1
      clear qx0 qx1 qx2 qx3 rx0 rx1
      obtain⟨qx0,qx1,qx2,qx3⟩:=(HC _ HB.out).out
      obtain⟨rx0,rx1⟩:=(HZ _ HB.out.size).out
      have a0:w6.cell? ⟨g1,0,none⟩=some (.int .i64 PA.x):=World.rowIs.cell HR1.out (i:=0) (by decide)
      have a1:w6.cell? ⟨g1,1,none⟩=some (.int .i64 PA.y):=World.rowIs.cell HR1.out (i:=1) (by decide)
      have b0:w6.cell? ⟨g2,0,none⟩=some (.int .i64 PB.x):=World.rowIs.cell HR2.out (i:=0) (by decide)
      have b1:w6.cell? ⟨g2,1,none⟩=some (.int .i64 PB.y):=World.rowIs.cell HR2.out (i:=1) (by decide)
      by_cases c3:t<0
      ·go_wp2_with fail
       go_roundw
       case rel=>
        refine⟨k+1,(m+1),by omega,by omega,by go_num,by go_num, ?_,HB.out⟩
        have hz:=HWI.out
        rw[HDR.out,withinR_no (r:=true) HTH.out (by unfold rayR;rw[←HTT.out];simp;omega)] at hz
        exact hz
       case measure=>simp[intOf];omega
      ·go_wp2_with fail
       go_roundw
       case rel=>
        refine⟨k+1,m,by omega,by omega,by go_num,by go_num, ?_,HB.out⟩
        have hz:=HWI.out
        rw[HDR.out,withinR_no (r:=false) HTH.out (by unfold rayR;rw[←HTT.out];simp;omega)] at hz
        exact hz
       case measure=>simp[intOf];omega
     ·go_wp2_with fail
      go_roundw
      case rel=>
       refine⟨k+1,m,by omega,by omega,by go_num,by go_num, ?_,HB.out⟩
       have hz:=HWI.out
       rw[HDR.out,withinR_no (r:=false) HTH.out (by unfold rayR;rw[←HTT.out];simp;omega)] at hz
       exact hz
      case measure=>simp[intOf];omega
   ·rw[hth] at HW5
    have F:=Lib.hid (show withinD p R q=false from by
     rw[HD.out, ←HWI.out,HDR.out]
     show(_&&(if wthR q PA PB=true then false else _))=false
     rw[hth];rfl)
    clear hth
    go_wp2_with fail
    refine(HW5 _).out.mono ?_
    rintro e w5 ⟨rfl,hb9⟩
    have HR1:=Lib.hid (rowIs_touch HR1.out (Touch.of_below (F:=[]) hb9) (by simp))
    have HR2:=Lib.hid (rowIs_touch HR2.out (Touch.of_below (F:=[]) hb9) (by simp))
    have HB:=Lib.hid (below_next HB.out (Nat.le_trans HBW.out HB.out.size) hb9)
    clear hb9 a0 a1 b0 b1
    clear qx0 qx1 qx2 qx3 rx0 rx1
    obtain⟨qx0,qx1,qx2,qx3⟩:=(HC _ HB.out).out
    obtain⟨rx0,rx1⟩:=(HZ _ HB.out.size).out
    have a0:w5.cell? ⟨g1,0,none⟩=some (.int .i64 PA.x):=World.rowIs.cell HR1.out (i:=0) (by decide)
    have a1:w5.cell? ⟨g1,1,none⟩=some (.int .i64 PA.y):=World.rowIs.cell HR1.out (i:=1) (by decide)
    have b0:w5.cell? ⟨g2,0,none⟩=some (.int .i64 PB.x):=World.rowIs.cell HR2.out (i:=0) (by decide)
    have b1:w5.cell? ⟨g2,1,none⟩=some (.int .i64 PB.y):=World.rowIs.cell HR2.out (i:=1) (by decide)
    go_wp2_with fail
    go_ret
    exact⟨by rw[F.out];rfl,bfn HW HB⟩
  ·have F:=Lib.hid (show withinD p R q=decide (m % 2=1) from by
    rw[HD.out, ←HWI.out,List.drop_of_length_le (by rw[List.length_map];have:=HL.out;omega)]
    rfl)
   go_wp2_with fail
   have hmod:((m:Int) % 2==1)=decide (m % 2=1):=by rw[Bool.eq_iff_iff];simp;omega
   go_ret
   exact⟨by rw[F.out];exact congrArg (fun b=>Ending.returned (.bool b)) hmod,bfn HW HB⟩
end Go.Proofs.YthopjhifepijiaaGreat
