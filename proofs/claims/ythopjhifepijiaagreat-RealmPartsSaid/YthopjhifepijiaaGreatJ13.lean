/- Lemmas on the way to the statement. -/
import Derived.Test.YthopjhifepijiaaGreatJ12
set_option linter.unusedSimpArgs false
set_option linter.unusedVariables false
namespace Go.Proofs.YthopjhifepijiaaGreat
open Go.RowKit Go.Joins
theorem eq_hf (a b:Hf) (w:World):(binOp .eql 91 (.agg #[.int .i64 a.edge, .bool a.back]) (.agg #[.int .i64 b.edge, .bool b.back])).run Tryz.prog w= .ok (.bool (decide (a=b))) w:=by
 obtain⟨ax,ay⟩:=a
 obtain⟨bx,by_⟩:=b
 simp[go_sem]
 by_cases h1:ax=bx<;>by_cases h2:ay=by_<;>simp[h1,h2]
theorem eq_hf_of {a b:Hf} {x:Bool} (h:decide (a=b)=x) (w:World):(binOp .eql 91 (.agg #[.int .i64 a.edge, .bool a.back]) (.agg #[.int .i64 b.edge, .bool b.back])).run Tryz.prog w= .ok (.bool x) w:=by
 rw[eq_hf,h]
set_option maxRecDepth 100000 in
set_option maxHeartbeats 4000000 in
theorem r16has_any {w:World} {B n c:Nat} {a:Option Addr} {R:List Hf} (hr:HsIn w B a n R) (hB:B≤w.heap.size) (hl:n≤100000) (h:Hf):
  Calls Tryz.prog 62 #[.slice a n c, .agg #[.int .i64 h.edge, .bool h.back]] w fun e w'=>e= .returned (.bool (decide (h∈R)))∧Below w.heap.size w w':=by
 have HRS:=Lib.hid hr
 have HL:=Lib.hid hr.1
 clear hr
 go_enter Tryz.func62,Tryz.ntmps62
 go_wp2_with fail
 first|refine wp_name (fun W hW=> ?_)|refine calls_name (fun W hW=> ?_)
 have HW:Hid (Below w.heap.size w W):=Lib.hid (by rw[←hW];repeat (first|exact Below.refl _ _|refine below_alloc ?_))
 have HWs:Hid (W.heap.size=w.heap.size+1):=Lib.hid (by rw[←hW];simp)
 have HBW:Hid (W.heap.size≤W.heap.size):=Lib.hid (by have:=HWs.out;omega)
 have HC:=fun(W1:World) (hb:Below (W.heap.size) W W1)=>Lib.hid (show W1.cell? ⟨w.heap.size,0,none⟩=some (.int .i64 h.edge)∧W1.cell? ⟨w.heap.size,1,none⟩=some (.bool h.back) from by have hs:=HWs.out;refine⟨?_, ?_⟩<;>(refine(hb.cell (by dsimp only;omega)).trans ?_;rw[←hW];clear hW;go_simp))
 have HB:=Lib.hid (Below.refl (W.heap.size) W)
 clear hW
 have HZ:=fun(W1:World) (hb:W.heap.size≤W1.heap.size)=>Lib.hid (show w.heap.size<W1.heap.size from by have:=HWs.out;omega)
 obtain⟨qx0,qx1⟩:=(HC _ HB.out).out
 have rx0:=(HZ _ HB.out.size).out
 clear qx0 qx1 rx0
 go_loopw [5] (fun v wr=> ∃k:Nat,k≤n∧v= .int .i64 k∧(∀y∈R.take k,y≠h)∧Below W.heap.size W wr) (fun v _=>n - (intOf v).toNat)
 case atStart=>exact⟨0,Nat.zero_le _,rfl,fun y hy=>by simp at hy,HB.out⟩
 case round=>
  clear HB
  obtain⟨k,hk,rfl,hall,hb⟩:=hrel
  have HB:=Lib.hid hb
  have HA:=Lib.hid hall
  clear hb hall
  obtain⟨qx0,qx1⟩:=(HC _ HB.out).out
  have rx0:=(HZ _ HB.out.size).out
  by_cases hlt:k<n
  ·obtain⟨rb,roff,rfl,hrb,hcell⟩:=HRS.out.row (by omega)
   obtain⟨v,hv⟩: ∃v,R[k]? =some v:=⟨_,List.getElem?_eq_getElem (by have:=HL.out;omega)⟩
   have HVK:=Lib.hid hv
   have HCR:=fun(W1:World) (hb:Below w.heap.size w W1)=>Lib.hid (hcell W1 (hb.mono hB) k v hv)
   clear hcell hv
   cases he:decide (v=h)
   ·have re:=eq_hf_of he
    have HN:=Lib.hid (of_decide_eq_false he)
    clear he
    go_wp2_with fail
    refine wp_name (fun c3 hc3=> ?_)
    have HB:=bnm HB HBW hc3
    have y9:=fun(x:Later c3)=>(HCR x.1 (HW.out.trans ((HB.out.trans (x.2.mono HB.out.size)).mono HW.out.size))).out
    clear hc3
    have xx:=fun(x:Later c3)=>(HC _ (bnl HB HBW x.2)).out
    simp only[forall_and] at xx
    obtain⟨xx0,xx1⟩:=xx
    refine wp_region_later (by kernel_rfl) (by kernel_rfl) ?_
    repeat (first|go_big_quiet_step ((fail))|quiet_step ((fail)))
    refine wpQuiet_nil ?_
    intro w3 hw3
    have hb3:=later_below hw3
    clear hw3
    have HB:=Lib.hid (bnl HB HBW hb3)
    clear xx0 xx1
    clear qx0 qx1 rx0
    obtain⟨qx0,qx1⟩:=(HC _ HB.out).out
    skip
    clear hb3
    have rx0:=(HZ _ HB.out.size).out
    go_wp2_with fail
    go_roundw
    case rel=>
     refine⟨k+1,by omega,by go_num,fun y hy=> ?_,HB.out⟩
     rw[take_snoc' HVK.out] at hy
     rcases List.mem_append.1 hy with hy|hy
     ·exact HA.out y hy
     ·simp at hy;subst hy;exact HN.out
    case measure=>simp[intOf];omega
   ·have re:=eq_hf_of he
    have F:=Lib.hid (show decide (h∈R)=true from decide_eq_true (of_decide_eq_true he▸List.mem_of_getElem? HVK.out))
    clear he
    go_wp2_with fail
    refine wp_name (fun c4 hc4=> ?_)
    have HB:=bnm HB HBW hc4
    have y9:=fun(x:Later c4)=>(HCR x.1 (HW.out.trans ((HB.out.trans (x.2.mono HB.out.size)).mono HW.out.size))).out
    clear hc4
    have xx:=fun(x:Later c4)=>(HC _ (bnl HB HBW x.2)).out
    simp only[forall_and] at xx
    obtain⟨xx0,xx1⟩:=xx
    refine wp_region_later (by kernel_rfl) (by kernel_rfl) ?_
    repeat (first|go_big_quiet_step ((fail))|quiet_step ((fail)))
    refine wpQuiet_nil ?_
    intro w4 hw4
    have hb4:=later_below hw4
    clear hw4
    have HB:=Lib.hid (bnl HB HBW hb4)
    clear xx0 xx1
    clear qx0 qx1 rx0
    obtain⟨qx0,qx1⟩:=(HC _ HB.out).out
    skip
    clear hb4
    have rx0:=(HZ _ HB.out.size).out
    go_wp2_with fail
    go_ret
    exact⟨by rw[F.out];rfl,bfn HW HB⟩
  ·have F:=Lib.hid (show decide (h∈R)=false from decide_eq_false (fun hm=>HA.out h (by rw[List.take_of_length_le (by have:=HL.out;omega)];exact hm) rfl))
   go_wp2_with fail
   go_ret
   exact⟨by rw[F.out];rfl,bfn HW HB⟩
structure HvS (W wr:World) (es:List Ed) (k:Nat) (v:Value):Prop where
 own:wr.ownsRow W.heap.size 91 2 v (2*k) (hfC (halvesE (es.take k)))
 blw:Below W.heap.size W wr
set_option maxRecDepth 100000 in
set_option maxHeartbeats 4000000 in
theorem r16halves_any {w:World} {B en ec:Nat} {ea:Option Addr} {es:List Ed} (he:EsIn w B ea en es) (hB:B≤w.heap.size) (hm:en≤100000) (vs:Value) (hes: ∃a n c,vs= .slice a n c):
  Calls Tryz.prog 61 #[.agg #[vs, .slice ea en ec]] w fun e w'=>(∃a c,e= .returned (.slice a (2*en) c)∧w'.ownsRow w.heap.size 91 2 (.slice a (2*en) c) (2*en) (hfC (halvesE es)))∧Below w.heap.size w w':=by
 obtain⟨va,vn,vc,rfl⟩:=hes
 have HE:=Lib.hid he
 have HM:=Lib.hid he.1
 obtain⟨i0,hi,hz0,hz1,hz2⟩:=info_parts Tryz.infoHf
 clear he
 go_enter Tryz.func61,Tryz.ntmps61
 go_wp2_with fail
 first|refine wp_name (fun W hW=> ?_)|refine calls_name (fun W hW=> ?_)
 have HW:Hid (Below w.heap.size w W):=Lib.hid (by rw[←hW];repeat (first|exact Below.refl _ _|refine below_alloc ?_))
 have HWs:Hid (W.heap.size=w.heap.size+1):=Lib.hid (by rw[←hW];simp)
 have HBW:Hid (W.heap.size≤W.heap.size):=Lib.hid (by have:=HWs.out;omega)
 have HC:=fun(W1:World) (hb:Below (W.heap.size) W W1)=>Lib.hid (show W1.cell? ⟨w.heap.size,0,none⟩=some (.slice va vn vc)∧W1.cell? ⟨w.heap.size,1,none⟩=some (.slice ea en ec) from by have hs:=HWs.out;refine⟨?_, ?_⟩<;>(refine(hb.cell (by dsimp only;omega)).trans ?_;rw[←hW];clear hW;go_simp))
 have HB:=Lib.hid (Below.refl (W.heap.size) W)
 clear hW
 have HZ:=fun(W1:World) (hb:W.heap.size≤W1.heap.size)=>Lib.hid (show w.heap.size<W1.heap.size from by have:=HWs.out;omega)
 obtain⟨qx0,qx1⟩:=(HC _ HB.out).out
 have rx0:=(HZ _ HB.out.size).out
 clear qx0 qx1 rx0
 go_loopw [3,4] (fun o v wr=> ∃(k:Nat) (ov:Value),k≤en∧v= .int .i64 k∧ov=o∧HvS W wr es k ov) (fun _ v _=>en - (intOf v).toNat)
 case atStart=>exact⟨0,_,Nat.zero_le _,rfl,rfl,by simpa[halvesE,hfC] using World.ownsRow_nil _ _ _ _,HB.out⟩
 case round=>
  clear HB
  obtain⟨k,ov,hk,rfl,rfl,hI⟩:=hrel
  have HI:=Lib.hid hI
  have HB:=Lib.hid hI.blw
  clear hI
  obtain⟨qx0,qx1⟩:=(HC _ HB.out).out
  have rx0:=(HZ _ HB.out.size).out
  by_cases hlt:k<en
  ·obtain⟨eb,eoff,rfl,heb,hcell⟩:=HE.out.row (by omega)
   obtain⟨e,hev⟩: ∃e,es[k]? =some e:=⟨_,List.getElem?_eq_getElem (by have:=HM.out;omega)⟩
   have HCE:=fun(W1:World) (hb:Below w.heap.size w W1)=>Lib.hid (hcell W1 (hb.mono hB) k e hev)
   have HSN:=Lib.hid (show halvesE (es.take (k+1))=halvesE (es.take k)++[⟨e.id,false⟩,⟨e.id,true⟩] from by rw[take_snoc' hev,halves_snoc])
   clear hcell hev
   go_wp2_with fail
   clear qx0 qx1 rx0
   have HY:=fun(w':World) (t:Below wr.heap.size wr w')=>Lib.hid (show w'.cell? ⟨w.heap.size,0,none⟩=some (.slice va vn vc)∧w'.cell? ⟨w.heap.size,1,none⟩=some (.slice (some ⟨eb,eoff,none⟩) en ec)∧w'.cell? ⟨eb,eoff+k*3,none⟩=some (.int .i64 e.id) from by
    obtain⟨d0,d1⟩:=(HC _ (HB.out.trans (t.mono HB.out.size))).out
    exact⟨d0,d1,(HCE _ (HW.out.trans ((HB.out.trans (t.mono HB.out.size)).mono HW.out.size))).out.1⟩)
   have HS0:=Lib.hid (Below.refl wr.heap.size wr).drew
   have HO0:=Lib.hid (show wr.drew.ownsRow W.heap.size 91 2 ov (2*k) (hfC (halvesE (es.take k))) from HI.out.own)
   refine wp_region_noPanic ?_
   refine wp_region_par3 17 15 (by kernel_rfl) (by kernel_rfl) (by simp) (by omega) (by kernel_rfl) (by kernel_rfl) (fun w':World=>Below wr.heap.size wr w') ?_
   refine par3_move (v:= ?_) 0 (by simp only[zga,zgb,zgc];rfl) (by kernel_rfl) (by rfl) ?_ (fun _ _ _ h=>h) ?_
   rotate_left
   ·(intro w9;go_simp;try with_reducible rfl)
   simp only[Act.put,zpa,zpb,zpc]
   refine par3_move (v:= ?_) 1 (by simp only[zga,zgb,zgc];rfl) (by kernel_rfl) (by rfl) ?_ (fun _ _ _ h=>h) ?_
   rotate_left
   ·(intro w9;go_simp;try with_reducible rfl)
   simp only[Act.put,zpa,zpb,zpc]
   refine par3_read8 (v:= ?_) 2 (by simp only[zga,zgb,zgc];rfl) (by kernel_rfl) (by rfl) HS0.out ?_ (fun _ _ _ h=>h) ?_
   rotate_left
   ·(intro w9 hSw;obtain⟨y0,y1,y2⟩:=(HY w9 hSw).out;clear hSw;go_simp;try with_reducible rfl)
   simp only[Act.put,zpa,zpb,zpc]
   refine par3_move (v:= ?_) 3 (by simp only[zga,zgb,zgc];rfl) (by kernel_rfl) (by rfl) ?_ (fun _ _ _ h=>h) ?_
   rotate_left
   ·(intro w9;go_simp;try with_reducible rfl)
   simp only[Act.put,zpa,zpb,zpc]
   refine par3_move (v:= ?_) 4 (by simp only[zga,zgb,zgc];rfl) (by kernel_rfl) (by rfl) ?_ (fun _ _ _ h=>h) ?_
   rotate_left
   ·(intro w9;go_simp;try with_reducible rfl)
   simp only[Act.put,zpa,zpb,zpc]
   refine par3_move (v:= ?_) 5 (by simp only[zga,zgb,zgc];rfl) (by kernel_rfl) (by rfl) ?_ (fun _ _ _ h=>h) ?_
   rotate_left
   ·(intro w9;go_simp;try with_reducible rfl)
   simp only[Act.put,zpa,zpb,zpc]
   refine par3_read8 (v:= ?_) 6 (by simp only[zga,zgb,zgc];rfl) (by kernel_rfl) (by rfl) HS0.out ?_ (fun _ _ _ h=>h) ?_
   rotate_left
   ·(intro w9 hSw;obtain⟨y0,y1,y2⟩:=(HY w9 hSw).out;clear hSw;go_simp;try with_reducible rfl)
   simp only[Act.put,zpa,zpb,zpc]
   refine par3_move (v:= ?_) 7 (by simp only[zga,zgb,zgc];rfl) (by kernel_rfl) (by rfl) ?_ (fun _ _ _ h=>h) ?_
   rotate_left
   ·(intro w9;go_simp;try with_reducible rfl)
   simp only[Act.put,zpa,zpb,zpc]
   refine par3_move (v:= ?_) 8 (by simp only[zga,zgb,zgc];rfl) (by kernel_rfl) (by rfl) ?_ (fun _ _ _ h=>h) ?_
   rotate_left
   ·(intro w9;go_simp;try with_reducible rfl)
   simp only[Act.put,zpa,zpb,zpc]
   refine par3_read8 (v:= ?_) 9 (by simp only[zga,zgb,zgc];rfl) (by kernel_rfl) (by rfl) HS0.out ?_ (fun _ _ _ h=>h) ?_
   rotate_left
   ·(intro w9 hSw;obtain⟨y0,y1,y2⟩:=(HY w9 hSw).out;clear hSw;go_simp;try with_reducible rfl)
   simp only[Act.put,zpa,zpb,zpc]
   refine par3_move (v:= ?_) 10 (by simp only[zga,zgb,zgc];rfl) (by kernel_rfl) (by rfl) ?_ (fun _ _ _ h=>h) ?_
   rotate_left
   ·(intro w9;go_simp;try with_reducible rfl)
   simp only[Act.put,zpa,zpb,zpc]
   refine par3_move (v:= ?_) 11 (by simp only[zga,zgb,zgc];rfl) (by kernel_rfl) (by rfl) ?_ (fun _ _ _ h=>h) ?_
   rotate_left
   ·(intro w9;go_simp;try with_reducible rfl)
   simp only[Act.put,zpa,zpb,zpc]
   refine par3_move (v:= ?_) 12 (by simp only[zga,zgb,zgc];rfl) (by kernel_rfl) (by rfl) ?_ (fun _ _ _ h=>h) ?_
   rotate_left
   ·(intro w9;go_simp;try with_reducible rfl)
   simp only[Act.put,zpa,zpb,zpc]
   refine par3_read8 (v:= ?_) 13 (by simp only[zga,zgb,zgc];rfl) (by kernel_rfl) (by rfl) HS0.out ?_ (fun _ _ _ h=>h) ?_
   rotate_left
   ·(intro w9 hSw;obtain⟨y0,y1,y2⟩:=(HY w9 hSw).out;clear hSw;go_simp;try with_reducible rfl)
   simp only[Act.put,zpa,zpb,zpc]
   refine par3_move (v:= ?_) 14 (by simp only[zga,zgb,zgc];rfl) (by kernel_rfl) (by rfl) ?_ (fun _ _ _ h=>h) ?_
   rotate_left
   ·(intro w9;go_simp;try with_reducible rfl)
   simp only[Act.put,zpa,zpb,zpc]
   refine par3_nm (fun W0 hW0=> ?_)
   rw[←hW0] at HS0 HO0
   clear hW0
   refine par3_one 15 (by simp only[zga,zgb,zgc];rfl) (by kernel_rfl) (by rfl) ?_
   refine owp_val (v:= ?_) (w1:= ?_) ?_ ?_
   rotate_left 2
   ·(go_simp;constructor<;>rfl)
   refine⟨fun _ h=>absurd h (by omega), ?_⟩
   simp only[Act.put,zpa,zpb,zpc]
   refine par3_one 16 (by simp only[zga,zgb,zgc];rfl) (by kernel_rfl) (by rfl) ?_
   refine owp_append_near rfl (.tmp 12) (.tmp 27) 33 rfl W.heap.size 91 i0 (.agg #[.int .i64 0, .bool false]) 2 16 Tryz.underlying33 hi hz0 hz1 hz2 rfl (by decide) ov (2*k) _ rfl (HO0.out.alloc _) ⟨W0.heap.size,0,none⟩ 2 2 [.int .i64 e.id, .bool false, .int .i64 e.id, .bool true] rfl (by decide) rfl (cell_list_at _ [.int .i64 e.id, .bool false, .int .i64 e.id, .bool true] _ rfl) (by intro u hu;simp at hu;rcases hu with rfl|rfl|rfl|rfl<;>rfl) (by unfold maxLen;omega) (by omega) (by have:=HB.out.size;have:=HS0.out.size;simp;omega) ?_
   intro g cap w5 hown hgr hat
   have HN:=Lib.hid (show HvS W w5 es (k+1) (.slice (some ⟨g,0,none⟩) (2*k+2) cap) from⟨by
    rw[HSN.out,hfC_app]
    exact hown,((HB.out.trans (HS0.out.mono HB.out.size)).alloc (Nat.le_trans HB.out.size HS0.out.size) _).grown hgr (Nat.le_trans (Nat.le_trans HB.out.size HS0.out.size) (by simp)) (fun q hq=>(HO0.out.lt q hq).1)⟩)
   refine⟨fun _ h=>absurd h (by omega), ?_⟩
   clear hown hgr hat
   simp only[Act.put,zpa,zpb,zpc]
   refine par3_tail _ (by simp only[List.drop_succ_cons,List.drop_zero];rfl) (by kernel_rfl) ?_
   go_wp2_with fail
   refine NoPanic.normal ?_
   go_wp2_with fail
   go_roundw
   case rel=>exact⟨k+1,_,by omega,by go_num,rfl,HN.out⟩
   case measure=>simp[intOf];omega
  ·obtain rfl:k=en:=by omega
   obtain⟨oa,oc,rfl⟩:=own_form HI.out.own
   have hT:es.take k=es:=List.take_of_length_le (by have:=HM.out;omega)
   have h1:=HI.out.own
   rw[hT] at h1
   have HT:=Lib.hid h1
   clear h1 hT
   go_wp2_with fail
   go_ret
   exact⟨⟨oa,oc,rfl,ownsRow_le HT.out HW.out.size⟩,HW.out.trans (HB.out.mono HW.out.size)⟩
end Go.Proofs.YthopjhifepijiaaGreat
namespace Go.Proofs.YthopjhifepijiaaGreat
open Go.RowKit Go.Joins
theorem results_cell2 {fn:Func} {p u:Tmp} {ty:TypeId} (h:fn.results= #[.cell p ty, .cell u ty]) (tmps:Array Value) (P:Program) (w:World):
  (results fn tmps).run P w=
   ((asAddr (tmps.getD p undef)).run P w).andThen fun a w₁=>((loadVar ty a).run P w₁).andThen fun v w₂=>((asAddr (tmps.getD u undef)).run P w₂).andThen fun b w₃=>((loadVar ty b).run P w₃).andThen fun x w₄=> .ok (.tuple #[v,x]) w₄:=by
 simp only[results,h]
 simp[Sem.run_bind,Result.andThen]
theorem pt_load {W:World} {g:Nat} {q:Pt} (hr:W.rowIs g 42 2 (ptF q)):(loadVar 42 ⟨g,0,none⟩).run Tryz.prog W= .ok (ptV q) W:=by
 obtain⟨c,hc,hs,hi⟩:=hr
 have hcs:c= #[.int .i64 q.x, .int .i64 q.y]:=by
  apply Array.ext_getElem?
  intro i
  by_cases hlt:i<2
  ·rw[hi i hlt]
   rcases i with _|_|i<;>first|rfl|(exfalso;omega)
  ·rw[Array.getElem?_eq_none (by omega),Array.getElem?_eq_none (by simp;omega)]
 subst hcs
 exact run_loadVar_row (P:=Tryz.prog) W g _ 42 _ _ _ hc Tryz.underlying42 rfl (by kernel_rfl)
theorem res_pt2 {fn:Func} {p u:Tmp} {tmps:Array Value} {W:World} {g k:Nat} {q r:Pt} (h:fn.results= #[.cell p 42, .cell u 42]) (hp:tmps.getD p undef= .pointer (some ⟨g,0,none⟩)) (hu:tmps.getD u undef= .pointer (some ⟨k,0,none⟩))
  (hr:W.rowIs g 42 2 (ptF q)) (hk:W.rowIs k 42 2 (ptF r)):(results fn tmps).run Tryz.prog W= .ok (.tuple #[ptV q,ptV r]) W:=by
 rw[results_cell2 h]
 simp only[hp,hu,asAddr,Sem.run_pure,Result.andThen_ok,pt_load hr,pt_load hk]
theorem Tryz.results64:Tryz.f64.results= #[.cell 4 42, .cell 5 42]:=by kernel_rfl
theorem endsP_from {p:PL} {h:Hf} (hk:hasE p.es h.edge=true):endsP p h=((findV p.vs (fromH p.es h)).at_,(findV p.vs (fromH p.es (twinH h))).at_):=by
 rw[fromH_find hk,fromH_find (h:=twinH h) hk]
 unfold endsP
 rw[show(twinH h).edge=h.edge from rfl,show(twinH h).back= !h.back from rfl]
 cases h.back<;>rfl
structure HalfIn (p:PL) (h:Hf):Prop where
 e:hasE p.es h.edge=true
 a:hasV p.vs (findE p.es h.edge).a=true
 b:hasV p.vs (findE p.es h.edge).b=true
theorem HalfIn.from_ {p:PL} {h:Hf} (k:HalfIn p h):hasV p.vs (fromH p.es h)=true:=by
 rw[fromH_find k.e]
 split
 ·exact k.b
 ·exact k.a
theorem HalfIn.to {p:PL} {h:Hf} (k:HalfIn p h):hasV p.vs (fromH p.es (twinH h))=true:=HalfIn.from_ (h:=twinH h) ⟨k.e,k.a,k.b⟩
theorem RightP.halfIn {p:PL} (r:RightP p) {h:Hf} (hk:hasE p.es h.edge=true):HalfIn p h:=by
 obtain⟨i,hi⟩: ∃i,p.es[i]? =some (findE p.es h.edge):=⟨_,(placeE_at hk).1⟩
 obtain⟨A,B,he⟩:=r.e i _ hi
 exact⟨hk,hasV_iff.2 ⟨A,he.pa⟩,hasV_iff.2 ⟨B,he.pb⟩⟩
set_option maxRecDepth 100000 in
set_option maxHeartbeats 8000000 in
theorem r17ends_any {w:World} {B vn vc en ec:Nat} {va ea:Option Addr} {p:PL} (hv:VsIn w B va vn p.vs) (he:EsIn w B ea en p.es) (hB:B≤w.heap.size) (hn:vn≤100000) (hm:en≤100000) (h:Hf) (hk:HalfIn p h):
  Calls Tryz.prog 64 #[.agg #[.slice va vn vc, .slice ea en ec], .agg #[.int .i64 h.edge, .bool h.back]] w fun e w'=>e= .returned (.tuple #[ptV (endsP p h).1,ptV (endsP p h).2])∧Below w.heap.size w w':=by
 have HF1:=fun(W:World) (hb:Below w.heap.size w W)=>Lib.hid (r16from_any (w:=W) (ec:=ec) (he.below (hb.mono hB)) (Nat.le_trans hB hb.size) hm (.slice va vn vc) ⟨_,_,_,rfl⟩ h hk.e)
 have HF2:=fun(W:World) (hb:Below w.heap.size w W)=>Lib.hid (r16from_any (w:=W) (ec:=ec) (he.below (hb.mono hB)) (Nat.le_trans hB hb.size) hm (.slice va vn vc) ⟨_,_,_,rfl⟩ (twinH h) hk.e)
 have HA1:=fun(W:World) (hb:Below w.heap.size w W)=>Lib.hid (r15at_any (w:=W) (vc:=vc) (hv.below (hb.mono hB)) (Nat.le_trans hB hb.size) hn (.slice ea en ec) ⟨_,_,_,rfl⟩ (fromH p.es h) hk.from_)
 have HA2:=fun(W:World) (hb:Below w.heap.size w W)=>Lib.hid (r15at_any (w:=W) (vc:=vc) (hv.below (hb.mono hB)) (Nat.le_trans hB hb.size) hn (.slice ea en ec) ⟨_,_,_,rfl⟩ (fromH p.es (twinH h)) hk.to)
 have HTW:=fun(W:World) (hb:Below w.heap.size w W)=>Lib.hid (r16twin_any h W)
 rw[endsP_from hk.e]
 clear hv he hk
 generalize twinH h=t at*
 generalize fromH p.es h=i1 at*
 generalize fromH p.es t=i2 at*
 generalize (findV p.vs i1).at_=PA at*
 generalize (findV p.vs i2).at_=PB at*
 obtain⟨hh,hbk⟩:=h
 obtain⟨tt,tbk⟩:=t
 simp only at*
 go_enter Tryz.func64,Tryz.ntmps64
 go_wp2_with fail
 first|refine wp_name (fun W hW=> ?_)|refine calls_name (fun W hW=> ?_)
 have HW:Hid (Below w.heap.size w W):=Lib.hid (by rw[←hW];repeat (first|exact Below.refl _ _|refine below_alloc ?_))
 have HWs:Hid (W.heap.size=w.heap.size+1+1+1+1):=Lib.hid (by rw[←hW];simp)
 have HBW:Hid (W.heap.size≤W.heap.size):=Lib.hid (by have:=HWs.out;omega)
 have HC:=fun(W1:World) (hb:Below (W.heap.size) W W1)=>Lib.hid (show W1.cell? ⟨w.heap.size,0,none⟩=some (.slice va vn vc)∧W1.cell? ⟨w.heap.size,1,none⟩=some (.slice ea en ec)∧W1.cell? ⟨w.heap.size+1,0,none⟩=some (.int .i64 hh)∧W1.cell? ⟨w.heap.size+1,1,none⟩=some (.bool hbk)∧W1.cell? ⟨w.heap.size+1+1,0,none⟩=some (.int .i64 0)∧W1.cell? ⟨w.heap.size+1+1,1,none⟩=some (.int .i64 0)∧W1.cell? ⟨w.heap.size+1+1+1,0,none⟩=some (.int .i64 0)∧W1.cell? ⟨w.heap.size+1+1+1,1,none⟩=some (.int .i64 0) from by have hs:=HWs.out;refine⟨?_, ?_, ?_, ?_, ?_, ?_, ?_, ?_⟩<;>(refine(hb.cell (by dsimp only;omega)).trans ?_;rw[←hW];clear hW;go_simp))
 have HB:=Lib.hid (Below.refl (W.heap.size) W)
 have HZ:=fun(W1:World) (hb:W.heap.size≤W1.heap.size)=>Lib.hid (show w.heap.size<W1.heap.size∧w.heap.size+1<W1.heap.size∧w.heap.size+1+1<W1.heap.size∧w.heap.size+1+1+1<W1.heap.size from by have:=HWs.out;refine⟨?_, ?_, ?_, ?_⟩<;>omega)
 obtain⟨qx0,qx1,qx2,qx3,qx4,qx5,qx6,qx7⟩:=(HC _ HB.out).out
 obtain⟨rx0,rx1,rx2,rx3⟩:=(HZ _ HB.out.size).out
 have HPA:=Lib.hid (show W.rowIs (w.heap.size+1+1) 42 2 (ptF ⟨0,0⟩) from by
  have:=(World.rowIs_alloc ((w.alloc (.cells #[.slice va vn vc, .slice ea en ec] 25)).alloc (.cells #[.int .i64 hh, .bool hbk] 91)) #[.int .i64 0, .int .i64 0] 42 (ptF ⟨0,0⟩) (ptF_get ⟨0,0⟩)).alloc (.cells #[.int .i64 0, .int .i64 0] 42)
  rw[hW] at this
  simpa using this)
 have HPB:=Lib.hid (show W.rowIs (w.heap.size+1+1+1) 42 2 (ptF ⟨0,0⟩) from by
  have:=World.rowIs_alloc (((w.alloc (.cells #[.slice va vn vc, .slice ea en ec] 25)).alloc (.cells #[.int .i64 hh, .bool hbk] 91)).alloc (.cells #[.int .i64 0, .int .i64 0] 42)) #[.int .i64 0, .int .i64 0] 42 (ptF ⟨0,0⟩) (ptF_get ⟨0,0⟩)
  rw[hW] at this
  simpa using this)
 clear hW
 clear qx0 qx1 qx2 qx3 qx4 qx5 qx6 qx7 rx0 rx1 rx2 rx3
 go_upto_region 1 with fail
 have HZR:=fun(W1:World) (t:Touch [w.heap.size+1+1] W W1)=>rowIs_touch HPB.out t (by simp)
 have HLO:=fun(W1:World) (t:Touch [w.heap.size+1+1] W W1)=>Lib.hid (HW.out.trans (Touch.below t HW.out.size (by intro b hb;simp at hb;omega)))
 have HY:=fun(w':World) (t:Touch [w.heap.size+1+1] W w')=>Lib.hid (show w'.cell? ⟨w.heap.size,0,none⟩=some (.slice va vn vc)∧w'.cell? ⟨w.heap.size,1,none⟩=some (.slice ea en ec)∧w'.cell? ⟨w.heap.size+1,0,none⟩=some (.int .i64 hh)∧w'.cell? ⟨w.heap.size+1,1,none⟩=some (.bool hbk) from by
  have hs:=HWs.out
  obtain⟨c0,c1,c2,c3, -⟩:=(HC W (Below.refl _ _)).out
  exact⟨(t.cell (p:=⟨w.heap.size,_,none⟩) (by show w.heap.size<_;omega) (by simp<;>omega)).trans c0,(t.cell (p:=⟨w.heap.size,_,none⟩) (by show w.heap.size<_;omega) (by simp<;>omega)).trans c1,(t.cell (p:=⟨w.heap.size+1,_,none⟩) (by show w.heap.size+1<_;omega) (by simp)).trans c2,(t.cell (p:=⟨w.heap.size+1,_,none⟩) (by show w.heap.size+1<_;omega) (by simp)).trans c3⟩)
 have HS0:=Lib.hid (Touch.refl [w.heap.size+1+1] W).drew
 refine wp_region_noPanic ?_
 refine wp_region_par3 12 12 (by kernel_rfl) (by kernel_rfl) (by simp) (by omega) (by kernel_rfl) (by kernel_rfl) (fun w':World=>Touch [w.heap.size+1+1] W w') ?_
 refine par3_read (v:= ?_) 0 (by simp only[zga,zgb,zgc];rfl) (by kernel_rfl) (by rfl) HS0.out ?_ (fun _ _ _ h=>h) ?_
 rotate_left
 ·(intro w9 hSw;obtain⟨y0,y1,y2,y3⟩:=(HY w9 hSw).out;clear hSw;go_simp;try with_reducible rfl)
 simp only[Act.put,zpa,zpb,zpc]
 refine par3_read (v:= ?_) 1 (by simp only[zga,zgb,zgc];rfl) (by kernel_rfl) (by rfl) HS0.out ?_ (fun _ _ _ h=>h) ?_
 rotate_left
 ·(intro w9 hSw;obtain⟨y0,y1,y2,y3⟩:=(HY w9 hSw).out;clear hSw;go_simp;try with_reducible rfl)
 simp only[Act.put,zpa,zpb,zpc]
 refine par3_read (v:= ?_) 2 (by simp only[zga,zgb,zgc];rfl) (by kernel_rfl) (by rfl) HS0.out ?_ (fun _ _ _ h=>h) ?_
 rotate_left
 ·(intro w9 hSw;obtain⟨y0,y1,y2,y3⟩:=(HY w9 hSw).out;clear hSw;go_simp;try with_reducible rfl)
 simp only[Act.put,zpa,zpb,zpc]
 refine par3_read (v:= ?_) 5 (by simp only[zga,zgb,zgc];rfl) (by kernel_rfl) (by rfl) HS0.out ?_ (fun _ _ _ h=>h) ?_
 rotate_left
 ·(intro w9 hSw;obtain⟨y0,y1,y2,y3⟩:=(HY w9 hSw).out;clear hSw;go_simp;try with_reducible rfl)
 simp only[Act.put,zpa,zpb,zpc]
 refine par3_read (v:= ?_) 6 (by simp only[zga,zgb,zgc];rfl) (by kernel_rfl) (by rfl) HS0.out ?_ (fun _ _ _ h=>h) ?_
 rotate_left
 ·(intro w9 hSw;obtain⟨y0,y1,y2,y3⟩:=(HY w9 hSw).out;clear hSw;go_simp;try with_reducible rfl)
 simp only[Act.put,zpa,zpb,zpc]
 refine par3_read (v:= ?_) 7 (by simp only[zga,zgb,zgc];rfl) (by kernel_rfl) (by rfl) HS0.out ?_ (fun _ _ _ h=>h) ?_
 rotate_left
 ·(intro w9 hSw;obtain⟨y0,y1,y2,y3⟩:=(HY w9 hSw).out;clear hSw;go_simp;try with_reducible rfl)
 simp only[Act.put,zpa,zpb,zpc]
 have HA0:=Lib.hid (show W.drew.rowIs (w.heap.size+1+1) 42 2 (ptF ⟨0,0⟩) from HPA.out)
 refine par3_nm (fun W0 hW0=> ?_)
 rw[←hW0] at HS0 HA0
 clear hW0
 refine par3_one 3 (by simp only[zga,zgb,zgc];rfl) (by kernel_rfl) (by rfl) ?_
 refine owp_call (by go_simp;constructor<;>rfl) ?_
 refine(HF1 _ (HLO _ HS0.out).out).out.mono ?_
 rintro x W3 ⟨rfl,hb9⟩
 have HS3:=Lib.hid (touch_later HS0.out hb9)
 have HR3:=Lib.hid (rowIs_touch HA0.out (Touch.of_below (F:=[]) hb9) (by simp))
 refine⟨_,rfl,fun s _=>HS3.out, ?_⟩
 clear hb9
 simp only[Act.put,zpa,zpb,zpc]
 refine par3_one 4 (by simp only[zga,zgb,zgc];rfl) (by kernel_rfl) (by rfl) ?_
 refine owp_call (by go_simp;constructor<;>rfl) ?_
 refine(HA1 _ (HLO _ HS3.out).out).out.mono ?_
 rintro x W4 ⟨rfl,hb9⟩
 have HS4:=Lib.hid (touch_later HS3.out hb9)
 have HR4:=Lib.hid (rowIs_touch HR3.out (Touch.of_below (F:=[]) hb9) (by simp))
 refine⟨_,rfl,fun s _=>HS4.out, ?_⟩
 clear hb9
 simp only[Act.put,zpa,zpb,zpc]
 refine par3_one 8 (by simp only[zga,zgb,zgc];rfl) (by kernel_rfl) (by rfl) ?_
 refine owp_call (by go_simp;constructor<;>rfl) ?_
 refine(HTW _ (HLO _ HS4.out).out).out.mono ?_
 rintro x W8 ⟨rfl,hb9⟩
 have HS8:=Lib.hid (touch_later HS4.out hb9)
 have HR8:=Lib.hid (rowIs_touch HR4.out (Touch.of_below (F:=[]) hb9) (by simp))
 refine⟨_,rfl,fun s _=>HS8.out, ?_⟩
 clear hb9
 simp only[Act.put,zpa,zpb,zpc]
 refine par3_one 9 (by simp only[zga,zgb,zgc];rfl) (by kernel_rfl) (by rfl) ?_
 refine owp_call (by go_simp;constructor<;>rfl) ?_
 refine(HF2 _ (HLO _ HS8.out).out).out.mono ?_
 rintro x W9 ⟨rfl,hb9⟩
 have HS9:=Lib.hid (touch_later HS8.out hb9)
 have HR9:=Lib.hid (rowIs_touch HR8.out (Touch.of_below (F:=[]) hb9) (by simp))
 refine⟨_,rfl,fun s _=>HS9.out, ?_⟩
 clear hb9
 simp only[Act.put,zpa,zpb,zpc]
 refine par3_one 10 (by simp only[zga,zgb,zgc];rfl) (by kernel_rfl) (by rfl) ?_
 refine owp_call (by go_simp;constructor<;>rfl) ?_
 refine(HA2 _ (HLO _ HS9.out).out).out.mono ?_
 rintro x W10 ⟨rfl,hb9⟩
 have HS10:=Lib.hid (touch_later HS9.out hb9)
 have HR10:=Lib.hid (rowIs_touch HR9.out (Touch.of_below (F:=[]) hb9) (by simp))
 refine⟨_,rfl,fun s _=>HS10.out, ?_⟩
 clear hb9
 simp only[Act.put,zpa,zpb,zpc]
 refine par3_one 11 (by simp only[zga,zgb,zgc];rfl) (by kernel_rfl) (by rfl) ?_
 have f0:=World.rowIs.frozen HR10.out 0
 have f1:=World.rowIs.frozen HR10.out 1
 have p0:=World.rowIs.cell HR10.out (i:=0) (by decide)
 have p1:=World.rowIs.cell HR10.out (i:=1) (by decide)
 refine owp_skip (w1:= ?_) ?_ ?_
 rotate_left
 ·(go_simp;first|rfl|(constructor<;>rfl))
 refine⟨fun s _=>(s.setCell (.inl (by simp)) _).setCell (.inl (by simp)) _, ?_⟩
 simp only[Act.put,zpa,zpb,zpc]
 clear f0 f1 p0 p1
 have HS11:=Lib.hid ((HS10.out.setCell (p:=⟨w.heap.size+1+1,0,none⟩) (.inl (by simp)) (.int .i64 PA.x)).setCell (p:=⟨w.heap.size+1+1,1,none⟩) (.inl (by simp)) (.int .i64 PA.y))
 have HR11:=Lib.hid (World.rowIs.congr (f:=_) (g:=ptF PA) (World.rowIs.set (World.rowIs.set HR10.out 0 (.int .i64 PA.x)) 1 (.int .i64 PA.y)) (fun i hi=>by rcases i with _|_|i<;>first|rfl|exact absurd hi (by omega)))
 refine par3_nm (fun W11 hW9=> ?_)
 rw[←hW9] at HS11 HR11
 clear hW9
 have HZ:=Lib.hid (HZR _ HS11.out)
 have f0:=World.rowIs.frozen HZ.out 0
 have f1:=World.rowIs.frozen HZ.out 1
 have p0:=World.rowIs.cell HZ.out (i:=0) (by decide)
 have p1:=World.rowIs.cell HZ.out (i:=1) (by decide)
 refine par3_tail _ (by simp only[List.drop_succ_cons,List.drop_zero];rfl) (by kernel_rfl) ?_
 go_wp2_with fail
 refine NoPanic.normal ?_
 go_wp2_with fail
 refine bodyPost_ret_by (res_pt2 (q:=PA) (r:=PB) Tryz.results64 rfl rfl (rowIs_touch (F:=[w.heap.size+1+1+1]) HR11.out (((Touch.refl _ _).setCell (.inl (by simp)) _).setCell (.inl (by simp)) _) (by simp)) (World.rowIs.congr (World.rowIs.set (World.rowIs.set HZ.out 0 _) 1 _) (fun i hi=>by rcases i with _|_|i<;>first|rfl|exact absurd hi (by omega)))) rfl ?_
 exact⟨rfl,((HLO _ HS11.out).out.setCell (p:=⟨w.heap.size+1+1+1,0,none⟩) (by show _≤w.heap.size+1+1+1;omega) _).setCell (p:=⟨w.heap.size+1+1+1,1,none⟩) (by show _≤w.heap.size+1+1+1;omega) _⟩
end Go.Proofs.YthopjhifepijiaaGreat
namespace Go.Proofs.YthopjhifepijiaaGreat
open Go.RowKit
set_option maxRecDepth 100000 in
set_option maxHeartbeats 2000000 in
theorem r5wedge_any (x y:Int) (w:World):Calls Tryz.prog 109 #[.int .i64 x, .int .i64 y] w fun e w'=>e= .returned (.int .i64 (wedgeI x y))∧Below w.heap.size w w':=by
 obtain⟨v,hv⟩: ∃v,v=wedgeI x y:=⟨_,rfl⟩
 rw[←hv]
 have hc:(v=0∧(y==0)=true∧0<x)∨(v=4∧(y==0)=true∧ ¬0<x)∨(v=1∧(y==0)=false∧0<y∧0<x)∨(v=2∧(y==0)=false∧0<y∧ ¬0<x∧(x==0)=true)∨(v=3∧(y==0)=false∧0<y∧ ¬0<x∧(x==0)=false)∨
   (v=5∧(y==0)=false∧ ¬0<y∧x<0)∨(v=6∧(y==0)=false∧ ¬0<y∧ ¬x<0∧(x==0)=true)∨(v=7∧(y==0)=false∧ ¬0<y∧ ¬x<0∧(x==0)=false):=by
  rw[hv]
  simp only[beq_iff_eq,beq_eq_false_iff_ne,ne_eq]
  rcases wedge_cases x y with h|h|h|h|h|h|h|h<;>(obtain⟨e,h⟩:=h;rw[e];simp;omega)
 clear hv
 rcases hc with ⟨rfl,h1,h2⟩|⟨rfl,h1,h2⟩|⟨rfl,h1,h2,h3⟩|⟨rfl,h1,h2,h3,h4⟩|⟨rfl,h1,h2,h3,h4⟩|⟨rfl,h1,h2,h3⟩|⟨rfl,h1,h2,h3,h4⟩|⟨rfl,h1,h2,h3,h4⟩
 all_goals
  go_enter Tryz.func109,Tryz.ntmps109
  go_wp2_with fail
  go_ret
  exact⟨rfl,Below.refl _ _⟩
set_option maxRecDepth 100000 in
set_option maxHeartbeats 4000000 in
theorem r5around_any (o a b:Pt) (w:World) (ho:inB o=true) (ha:inB a=true) (hb:inB b=true):
  Calls Tryz.prog 101 #[.agg #[.int .i64 o.x, .int .i64 o.y], .agg #[.int .i64 a.x, .int .i64 a.y], .agg #[.int .i64 b.x, .int .i64 b.y]] w fun e w'=>e= .returned (.int .i64 (arndR o a b))∧Below w.heap.size w w':=by
 have HT:=fun w=>Lib.hid (r5turn_any o a b w ho ha hb)
 have H1:=fun w=>Lib.hid (r5wedge_any (a.x - o.x) (a.y - o.y) w)
 have H2:=fun w=>Lib.hid (r5wedge_any (b.x - o.x) (b.y - o.y) w)
 have hd:=inB_iff.1 ho
 have he:=inB_iff.1 ha
 have hf:=inB_iff.1 hb
 have ht:trn o a b= -1∨trn o a b=0∨trn o a b=1:=by rcases trn_cs o a b with h|h|h<;>omega
 unfold arndR
 generalize wedgeI (a.x - o.x) (a.y - o.y)=p at*
 generalize wedgeI (b.x - o.x) (b.y - o.y)=q at*
 generalize trn o a b=t at*
 clear ho ha hb
 rcases(show p<q∨(¬p<q∧q<p)∨(¬p<q∧ ¬q<p) by omega) with h1|⟨h1,h2⟩|⟨h1,h2⟩
 all_goals
  first|rw[if_pos h1]|rw[if_neg h1,if_pos h2]|rw[if_neg h1,if_neg h2]
  go_enter Tryz.func101,Tryz.ntmps101
  go_wp2_with fail
  first|refine wp_name (fun W hW=> ?_)|refine calls_name (fun W hW=> ?_)
  have HW:Hid (Below w.heap.size w W):=Lib.hid (by rw[←hW];repeat (first|exact Below.refl _ _|refine below_alloc ?_))
  have HWs:Hid (W.heap.size=w.heap.size+1+1+1):=Lib.hid (by rw[←hW];simp)
  have HBW:Hid (W.heap.size≤W.heap.size):=Lib.hid (by have:=HWs.out;omega)
  have HC:=fun(W1:World) (hb:Below (W.heap.size) W W1)=>Lib.hid (show W1.cell? ⟨w.heap.size,0,none⟩=some (.int .i64 o.x)∧W1.cell? ⟨w.heap.size,1,none⟩=some (.int .i64 o.y)∧W1.cell? ⟨w.heap.size+1,0,none⟩=some (.int .i64 a.x)∧W1.cell? ⟨w.heap.size+1,1,none⟩=some (.int .i64 a.y)∧W1.cell? ⟨w.heap.size+1+1,0,none⟩=some (.int .i64 b.x)∧W1.cell? ⟨w.heap.size+1+1,1,none⟩=some (.int .i64 b.y) from by have hs:=HWs.out;refine⟨?_, ?_, ?_, ?_, ?_, ?_⟩<;>(refine(hb.cell (by dsimp only;omega)).trans ?_;rw[←hW];clear hW;go_simp))
  have HB:=Lib.hid (Below.refl (W.heap.size) W)
  clear hW
  have HZ:=fun(W1:World) (hb:W.heap.size≤W1.heap.size)=>Lib.hid (show w.heap.size<W1.heap.size∧w.heap.size+1<W1.heap.size∧w.heap.size+1+1<W1.heap.size from by have:=HWs.out;refine⟨?_, ?_, ?_⟩<;>omega)
  obtain⟨qx0,qx1,qx2,qx3,qx4,qx5⟩:=(HC _ HB.out).out
  obtain⟨rx0,rx1,rx2⟩:=(HZ _ HB.out.size).out
  refine((H1 _).out).mono ?_
  rintro e w2 ⟨rfl,hb2⟩
  have HB:=bnx HB HBW hb2
  clear qx0 qx1 qx2 qx3 qx4 qx5 rx0 rx1 rx2
  obtain⟨qx0,qx1,qx2,qx3,qx4,qx5⟩:=(HC _ HB.out).out
  clear hb2
  obtain⟨rx0,rx1,rx2⟩:=(HZ _ HB.out.size).out
  go_wp2_with fail
  refine((H2 _).out).mono ?_
  rintro e w3 ⟨rfl,hb3⟩
  have HB:=bnx HB HBW hb3
  clear qx0 qx1 qx2 qx3 qx4 qx5 rx0 rx1 rx2
  obtain⟨qx0,qx1,qx2,qx3,qx4,qx5⟩:=(HC _ HB.out).out
  clear hb3
  obtain⟨rx0,rx1,rx2⟩:=(HZ _ HB.out.size).out
  go_wp2_with fail
  try
   refine((HT _).out).mono ?_
   rintro e w4 ⟨rfl,hb4⟩
   have HB:=bnx HB HBW hb4
   clear qx0 qx1 qx2 qx3 qx4 qx5 rx0 rx1 rx2
   obtain⟨qx0,qx1,qx2,qx3,qx4,qx5⟩:=(HC _ HB.out).out
   clear hb4
   obtain⟨rx0,rx1,rx2⟩:=(HZ _ HB.out.size).out
   go_wp2_with fail
  go_ret
  exact⟨rfl,bfn HW HB⟩
end Go.Proofs.YthopjhifepijiaaGreat
namespace Go.Proofs.YthopjhifepijiaaGreat
open Go.RowKit Go.Joins
def outV (p:PL) (id:Int) (k:Nat):List Hf:=((halvesE p.es).take k).foldl (fun l x=>if fromH p.es x=id then insH (ltH p id) x l else l) []
theorem outV_succ {p:PL} {id:Int} {k:Nat} {x:Hf} (h:(halvesE p.es)[k]? =some x):outV p id (k+1)=if fromH p.es x=id then insH (ltH p id) x (outV p id k) else outV p id k:=by
 unfold outV
 rw[take_snoc' h,List.foldl_append]
 rfl
theorem outV_all (p:PL) (id:Int):outV p id (halvesE p.es).length=outR p id:=by
 unfold outV outR
 rw[List.take_length]
theorem insH_len (lt:Hf→Hf→Bool) (x:Hf) (l:List Hf):(insH lt x l).length=l.length+1:=by rw[(insH_perm lt x l).length_eq];rfl
theorem outV_in {p:PL} {id:Int}: ∀ {k:Nat},k≤(halvesE p.es).length→(∀y∈outV p id k,y∈halvesE p.es∧fromH p.es y=id)∧(outV p id k).length≤k
 |0,_=>⟨by simp[outV],by simp[outV]⟩
 |k+1,hk=>by
  obtain⟨h1,h2⟩:=outV_in (p:=p) (id:=id) (k:=k) (by omega)
  have hx:=List.getElem?_eq_getElem (l:=halvesE p.es) (i:=k) (by omega)
  rw[outV_succ hx]
  by_cases e:fromH p.es (halvesE p.es)[k]=id
  ·rw[if_pos e]
   refine⟨fun y hy=> ?_,by rw[insH_len];omega⟩
   rcases List.mem_cons.1 ((insH_perm _ _ _).mem_iff.1 hy) with rfl|hy
   ·exact⟨List.getElem_mem _,e⟩
   ·exact h1 y hy
  ·rw[if_neg e]
   exact⟨h1,by omega⟩
theorem ptZ_find (vs:List Vx) (id:Int):(findV vs id).at_=ptZ vs id:=findV_ptZ vs id
structure InS (w1 wi:World) (lt:Hf→Hf→Bool) (x:Hf) (L:List Hf) (j:Nat) (d:Bool) (l:List Hf) (v:Value):Prop where
 own:wi.ownsRow w1.heap.size 91 2 v l.length (hfC l)
 sum:l++(if d=true then L.drop j else insH lt x (L.drop j))=insH lt x L
 len:l.length≤j+(if d=true then 1 else 0)
 blw:Below w1.heap.size w1 wi
theorem InS.later {w1 wi w5:World} {lt:Hf→Hf→Bool} {x:Hf} {L:List Hf} {j:Nat} {d:Bool} {l:List Hf} {v:Value} (h:InS w1 wi lt x L j d l v) (k:Below wi.heap.size wi w5):InS w1 w5 lt x L j d l v:=
 ⟨ownsRow_touch h.own (Touch.of_below (F:=[]) k) (by simp),h.sum,h.len,below_step k h.blw⟩
theorem InS.add {w1 wi w5:World} {lt:Hf→Hf→Bool} {x y:Hf} {L:List Hf} {j j':Nat} {d d':Bool} {l:List Hf} {v v':Value} {q:Obj} (h:InS w1 wi lt x L j d l v) (hown:w5.ownsRow w1.heap.size 91 2 v' (l.length+1) (hfC l++[.int .i64 y.edge, .bool y.back])) (hgr:(wi.alloc q).grownBy w5 v.ownBlock)
  (hs:(if d=true then L.drop j else insH lt x (L.drop j))=y::(if d'=true then L.drop j' else insH lt x (L.drop j'))) (hl:l.length+1≤j'+(if d'=true then 1 else 0)):InS w1 w5 lt x L j' d' (l++[y]) v':=
 ⟨by rw[hfC_app,List.length_append];exact hown,by rw[List.append_assoc,List.singleton_append, ←hs];exact h.sum,by simpa using hl,
  (h.blw.alloc h.blw.size q).grown hgr (Nat.le_trans h.blw.size (below_alloc (o:=q) (Below.refl wi.heap.size wi)).size) (fun z hz=>(h.own.lt z hz).1)⟩
theorem hsIn_of_own {w:World} {base n c:Nat} {a:Option Addr} {t:TypeId} {L:List Hf} (h:w.ownsRow base t 2 (.slice a n c) n (hfC L)) (hn:n=L.length):HsIn w w.heap.size a n L:=by
 refine⟨hn, ?_⟩
 rcases Nat.eq_zero_or_pos n with h0|h0
 ·exact .inl h0
 ·obtain⟨g,cap,e⟩:=ownsRow_form h h0
  injection e with e1 e2 e3
  subst e1
  exact .inr ⟨g,0,rfl,(h.lt g rfl).2,own_hs h⟩
set_option maxRecDepth 100000 in
set_option maxHeartbeats 16000000 in
theorem r16out_any {w:World} {B vn vc en ec:Nat} {va ea:Option Addr} {p:PL} (r:RightP p) (hv:VsIn w B va vn p.vs) (he:EsIn w B ea en p.es) (hB:B≤w.heap.size) (id:Int) (hid:hasV p.vs id=true):
  Calls Tryz.prog 83 #[.agg #[.slice va vn vc, .slice ea en ec], .int .i64 id] w fun e w'=>(∃a n c,e= .returned (.slice a n c)∧n=(outP p id).length∧w'.ownsRow w.heap.size 91 2 (.slice a n c) n (hfC (outP p id)))∧Below w.heap.size w w':=by
 have hn:vn≤512:=by have:=r.nv;have:=hv.1;omega
 have hm:en≤1024:=by have:=r.ne;have:=he.1;omega
 have hlen:(halvesE p.es).length=2*en:=by rw[halves_len,he.1]
 have HHV:=fun(W:World) (hb:Below w.heap.size w W)=>Lib.hid (r16halves_any (w:=W) (ec:=ec) (he.below (hb.mono hB)) (Nat.le_trans hB hb.size) (by omega) (.slice va vn vc) ⟨_,_,_,rfl⟩)
 have HF:=fun(W:World) (hb:Below w.heap.size w W) (h:Hf) (hk:hasE p.es h.edge=true)=>Lib.hid (r16from_any (w:=W) (ec:=ec) (he.below (hb.mono hB)) (Nat.le_trans hB hb.size) (by omega) (.slice va vn vc) ⟨_,_,_,rfl⟩ h hk)
 have HAT:=fun(W:World) (hb:Below w.heap.size w W) (id:Int) (hk:hasV p.vs id=true)=>Lib.hid (r15at_any (w:=W) (vc:=vc) (hv.below (hb.mono hB)) (Nat.le_trans hB hb.size) (by omega) (.slice ea en ec) ⟨_,_,_,rfl⟩ id hk)
 obtain⟨M,hM⟩: ∃M,M=2*en:=⟨_,rfl⟩
 rw[←hM] at HHV hlen
 have hM2:M≤2048:=by omega
 have HLN:=Lib.hid hlen
 have HR:=Lib.hid r
 have HID:=Lib.hid hid
 obtain⟨i0,hi,hz0,hz1,hz2⟩:=info_parts Tryz.infoHf
 rw[←r.outR_eq]
 clear hv he r hid hlen hM
 go_enter Tryz.func83,Tryz.ntmps83
 go_wp2_with fail
 first|refine wp_name (fun W hW=> ?_)|refine calls_name (fun W hW=> ?_)
 have HW:Hid (Below w.heap.size w W):=Lib.hid (by rw[←hW];repeat (first|exact Below.refl _ _|refine below_alloc ?_))
 have HWs:Hid (W.heap.size=w.heap.size+1):=Lib.hid (by rw[←hW];simp)
 have HBW:Hid (W.heap.size≤W.heap.size):=Lib.hid (by have:=HWs.out;omega)
 have HC:=fun(W1:World) (hb:Below (W.heap.size) W W1)=>Lib.hid (show W1.cell? ⟨w.heap.size,0,none⟩=some (.slice va vn vc)∧W1.cell? ⟨w.heap.size,1,none⟩=some (.slice ea en ec) from by have hs:=HWs.out;refine⟨?_, ?_⟩<;>(refine(hb.cell (by dsimp only;omega)).trans ?_;rw[←hW];clear hW;go_simp))
 have HB:=Lib.hid (Below.refl (W.heap.size) W)
 clear hW
 have HZ:=fun(W1:World) (hb:W.heap.size≤W1.heap.size)=>Lib.hid (show w.heap.size<W1.heap.size from by have:=HWs.out;omega)
 obtain⟨qx0,qx1⟩:=(HC _ HB.out).out
 have rx0:=(HZ _ HB.out.size).out
 refine((HHV _ HW.out).out).mono ?_
 rintro e w1 ⟨⟨aa,ca,rfl,hall⟩,hb2⟩
 have HB:=bnx HB HBW hb2
 clear qx0 qx1 rx0
 obtain⟨qx0,qx1⟩:=(HC _ HB.out).out
 clear hb2
 have rx0:=(HZ _ HB.out.size).out
 have HAL:=Lib.hid hall
 clear hall
 go_wp2_with fail
 have HX1:=Lib.hid (HW.out.trans (HB.out.mono HW.out.size))
 have HSW:=Lib.hid (show W.heap.size≤w1.heap.size from HB.out.size)
 clear qx0 qx1 rx0
 go_loopw [5,7] (fun o v wr=> ∃(k:Nat) (ov:Value),k≤M∧v= .int .i64 k∧ov=o∧wr.ownsRow w1.heap.size 91 2 ov (outV p id k).length (hfC (outV p id k))∧Below w1.heap.size w1 wr) (fun _ v _=>M - (intOf v).toNat)
 case atStart=>exact⟨0,_,Nat.zero_le _,rfl,rfl,by simpa[outV,hfC] using World.ownsRow_nil _ _ _ _,Below.refl _ _⟩
 case round=>
  obtain⟨k,ov,hk,rfl,rfl,how,hb⟩:=hrel
  obtain⟨wq,rfl⟩: ∃x:World,x=wr:=⟨_,rfl⟩
  have HOW:=Lib.hid how
  have HB1:=Lib.hid hb
  have HB:=Lib.hid (HB.out.trans (hb.mono HB.out.size))
  have HX:=Lib.hid (HX1.out.trans (hb.mono HX1.out.size))
  clear how hb
  obtain⟨qx0,qx1⟩:=(HC _ HB.out).out
  have rx0:=(HZ _ HB.out.size).out
  by_cases hlt:k<M
  ·obtain⟨x,hx⟩: ∃x,(halvesE p.es)[k]? =some x:=⟨_,List.getElem?_eq_getElem (by have:=HLN.out;omega)⟩
   have HXK:=Lib.hid hx
   have hxm:=List.mem_of_getElem? hx
   have hok:=outV_in (p:=p) (id:=id) (k:=k) (by have:=HLN.out;omega)
   obtain⟨ab,aoff,rfl,hab,hcell⟩:=(hsIn_of_own HAL.out HLN.out.symm).row (by omega)
   have HCA:=fun(W1:World) (hb:Below w1.heap.size w1 W1)=>Lib.hid (hcell W1 hb k x hx)
   have HFX:=fun(W1:World) (hb:Below w.heap.size w W1)=>HF W1 hb x (mem_known hxm)
   clear hcell hx
   obtain⟨oa,oc,rfl⟩:=own_form HOW.out
   cases hfr:decide (fromH p.es x=id)
   ·have hz:(fromH p.es x==id)=false:=by simpa using of_decide_eq_false hfr
    have HN:=Lib.hid (show outV p id (k+1)=outV p id k from by rw[outV_succ HXK.out,if_neg (of_decide_eq_false hfr)])
    generalize fromH p.es x=fx at HFX hz
    clear hfr hxm hok
    go_wp2_with fail
    refine wp_name (fun c4 hc4=> ?_)
    have HB:=bnm HB HBW hc4
    have HBC:=Lib.hid (hc4▸HB1.out);have HOC:=Lib.hid (hc4▸HOW.out);have HXC:=Lib.hid (hc4▸HX.out);have HFXL:=fun(x0:Later c4)=>HFX x0.1 (below_step x0.2 HXC.out);have y9:=fun(x0:Later c4)=>(HCA x0.1 (below_step x0.2 HBC.out)).out
    clear hc4
    have xx:=fun(x:Later c4)=>(HC _ (bnl HB HBW x.2)).out
    simp only[forall_and] at xx
    obtain⟨xx0,xx1⟩:=xx
    refine wp_region_later (by kernel_rfl) (by kernel_rfl) ?_
    repeat (first|go_big_quiet_step (((go_at_call 33;with_reducible refine Later.call (HFXL _).out)))|quiet_step (((go_at_call 33;with_reducible refine Later.call (HFXL _).out))))
    refine wpQuiet_nil ?_
    intro ws hw4
    have hb4:=later_below hw4
    clear hw4
    have HB:=Lib.hid (bnl HB HBW hb4)
    clear xx0 xx1
    clear qx0 qx1 rx0
    obtain⟨qx0,qx1⟩:=(HC _ HB.out).out
    have HX:=Lib.hid (below_step hb4 HXC.out);have HB1:=Lib.hid (below_step hb4 HBC.out);have HOW:=Lib.hid (ownsRow_touch HOC.out (Touch.of_below (F:=[]) hb4) (by simp))
    clear hb4
    have rx0:=(HZ _ HB.out.size).out
    go_wp2_with fail
    go_roundw
    case rel=>exact⟨k+1,_,by omega,by go_num,rfl,by rw[HN.out];exact HOW.out,HB1.out⟩
    case measure=>simp[intOf];omega
   ·have hfe:fromH p.es x=id:=of_decide_eq_true hfr
    have hz:(fromH p.es x==id)=true:=by simpa using hfe
    have HN:=Lib.hid (show outV p id (k+1)=insH (ltH p id) x (outV p id k) from by rw[outV_succ HXK.out,if_pos hfe])
    have hpx:=HR.out.half_pts hxm
    have hix:=HR.out.halfIn (mem_known hxm)
    obtain⟨L,hL⟩: ∃L,L=outV p id k:=⟨_,rfl⟩
    rw[←hL] at HN HOW hok ⊢
    have HLK:=Lib.hid (show L.length≤k from hok.2)
    have HLM:=Lib.hid hok.1
    generalize hfx:fromH p.es x=fx at HFX hz
    clear hfr hok hL hfx
    have HFT:=fun(W1:World) (hb:Below w.heap.size w W1)=>HF W1 hb (twinH x) hix.e
    have HAX:=fun(W1:World) (hb:Below w.heap.size w W1)=>HAT W1 hb (fromH p.es (twinH x)) hix.to
    have HAO:=fun(W1:World) (hb:Below w.heap.size w W1)=>HAT W1 hb id HID.out
    have HTX:=fun W=>Lib.hid (r16twin_any x W)
    rw[ptZ_find] at HAX HAO
    rw[show ptZ p.vs (fromH p.es (twinH x))=ptH p (twinH x) from rfl] at HAX
    have HPX:=Lib.hid (show inB (ptZ p.vs id)=true∧inB (ptH p (twinH x))=true∧ptH p (twinH x)≠ptZ p.vs id from by
     have e:ptZ p.vs id=ptH p x:=by unfold ptH;rw[hfe]
     rw[e]
     exact⟨hpx.1,hpx.2.1,hpx.2.2.2.2⟩)
    clear hpx hix hfe hxm
    go_wp2_with fail
    refine wp_name (fun c5 hc5=> ?_)
    have HB:=bnm HB HBW hc5
    have HBC:=Lib.hid (hc5▸HB1.out);have HOC:=Lib.hid (hc5▸HOW.out);have HXC:=Lib.hid (hc5▸HX.out);have HFXL:=fun(x0:Later c5)=>HFX x0.1 (below_step x0.2 HXC.out);have y9:=fun(x0:Later c5)=>(HCA x0.1 (below_step x0.2 HBC.out)).out
    clear hc5
    have xx:=fun(x:Later c5)=>(HC _ (bnl HB HBW x.2)).out
    simp only[forall_and] at xx
    obtain⟨xx0,xx1⟩:=xx
    refine wp_region_later (by kernel_rfl) (by kernel_rfl) ?_
    repeat (first|go_big_quiet_step (((go_at_call 33;with_reducible refine Later.call (HFXL _).out)))|quiet_step (((go_at_call 33;with_reducible refine Later.call (HFXL _).out))))
    refine wpQuiet_nil ?_
    intro ws hw5
    have hb5:=later_below hw5
    clear hw5
    have HB:=Lib.hid (bnl HB HBW hb5)
    clear xx0 xx1
    clear qx0 qx1 rx0
    obtain⟨qx0,qx1⟩:=(HC _ HB.out).out
    have HX:=Lib.hid (below_step hb5 HXC.out);have HB1:=Lib.hid (below_step hb5 HBC.out);have HOW:=Lib.hid (ownsRow_touch HOC.out (Touch.of_below (F:=[]) hb5) (by simp))
    clear hb5
    have rx0:=(HZ _ HB.out.size).out
    go_wp2_with fail
    clear qx0 qx1 rx0
    have HBS:=HB1
    have hz2:(fx != id)=false:=by rw[bne,hz];rfl
    rw[hz2]
    clear HFX hz hz2
    go_loopw [8,9,10] (fun lv0 dn jv wi=> ∃(i:Nat) (d:Bool) (lv:Value) (l:List Hf),i≤L.length∧jv= .int .i64 i∧lv=lv0∧dn= .bool d∧InS ws wi (ltH p id) x L i d l lv) (fun _ _ jv _=>L.length - (intOf jv).toNat)
    case atStart=>exact⟨0,false,_,[],Nat.zero_le _,rfl,rfl,rfl,by simpa[hfC] using World.ownsRow_nil _ _ _ _,by simp,by simp,Below.refl _ _⟩
    case round=>
     obtain⟨i,d,lv,l,hil,rfl,rfl,rfl,hI⟩:=hrel
     have HI:=Lib.hid hI
     have HB:=Lib.hid (HB.out.trans (hI.blw.mono HB.out.size))
     have HX:=Lib.hid (HX.out.trans (hI.blw.mono HX.out.size))
     have HB1:=Lib.hid (HB1.out.trans (hI.blw.mono HB1.out.size))
     clear hI
     obtain⟨qx0,qx1⟩:=(HC _ HB.out).out
     have rx0:=(HZ _ HB.out.size).out
     have hlk:=HLK.out
     by_cases hij:i<L.length
     ·obtain⟨y,hy⟩: ∃y,L[i]? =some y:=⟨_,List.getElem?_eq_getElem hij⟩
      have HYK:=Lib.hid hy
      have hym:=HLM.out y (List.mem_of_getElem? hy)
      obtain⟨ob,ooff,rfl,hob,hcell⟩:=(hsIn_of_own HOW.out rfl).row (by omega)
      have HCY:=fun(W1:World) (hb:Below ws.heap.size ws W1)=>Lib.hid (hcell W1 hb i y hy)
      have HDR:=Lib.hid (show L.drop i=y::L.drop (i+1) from by
       have h2:=(List.getElem?_eq_some_iff.1 hy)
       rw[List.drop_eq_getElem_cons h2.1,h2.2])
      have hiy:=HR.out.halfIn (mem_known hym.1)
      have hpy:=HR.out.half_pts hym.1
      have HFY:=fun(W1:World) (hb:Below w.heap.size w W1)=>HF W1 hb (twinH y) hiy.e
      have HAY:=fun(W1:World) (hb:Below w.heap.size w W1)=>HAT W1 hb (fromH p.es (twinH y)) hiy.to
      have HTY:=fun W=>Lib.hid (r16twin_any y W)
      rw[ptZ_find,show ptZ p.vs (fromH p.es (twinH y))=ptH p (twinH y) from rfl] at HAY
      have hpe:ptZ p.vs id=ptH p y:=by unfold ptH;rw[hym.2]
      have HAR:=fun W=>Lib.hid (r5around_any (ptZ p.vs id) (ptH p (twinH x)) (ptH p (twinH y)) W HPX.out.1 HPX.out.2.1 hpy.2.1)
      have HLT:=Lib.hid (show ltH p id x y=decide (arndR (ptZ p.vs id) (ptH p (twinH x)) (ptH p (twinH y))<0) from decide_eq_decide.2 (arndR_neg HPX.out.2.2 (by rw[hpe];exact hpy.2.2.2.2)).symm)
      clear hcell hy hym hiy hpy hpe
      generalize arndR (ptZ p.vs id) (ptH p (twinH x)) (ptH p (twinH y))=z at HAR HLT
      generalize ptZ p.vs id=O at HAO HAR
      generalize ptH p (twinH x)=PX at HAX HAR
      generalize ptH p (twinH y)=PY at HAY HAR
      generalize fromH p.es (twinH x)=tx at HFT HAX
      generalize fromH p.es (twinH y)=ty at HFY HAY
      cases d
      ·by_cases hz:z<0
       ·have HS2:=Lib.hid (show insH (ltH p id) x (L.drop i)=x::L.drop i from by rw[HDR.out];show(if ltH p id x y=true then _ else _)=_;rw[HLT.out,decide_eq_true hz,if_pos rfl])
        go_wp2_with fail
        refine wp_name (fun c7 hc7=> ?_)
        have HB:=bnm HB HBW hc7
        have HIC:=Lib.hid (hc7▸HI.out);have HXC:=Lib.hid (hc7▸HX.out);have HBC:=Lib.hid (hc7▸HB1.out);have HAOL:=fun(x0:Later c7)=>HAO x0.1 (below_step x0.2 HXC.out);have HAXL:=fun(x0:Later c7)=>HAX x0.1 (below_step x0.2 HXC.out);have HAYL:=fun(x0:Later c7)=>HAY x0.1 (below_step x0.2 HXC.out);have HFTL:=fun(x0:Later c7)=>HFT x0.1 (below_step x0.2 HXC.out);have HFYL:=fun(x0:Later c7)=>HFY x0.1 (below_step x0.2 HXC.out);have y8:=fun(x0:Later c7)=>(HCA x0.1 (below_step x0.2 HBC.out)).out;have y9:=fun(x0:Later c7)=>(HCY x0.1 (below_step x0.2 HIC.out.blw)).out
        clear hc7
        have xx:=fun(x:Later c7)=>(HC _ (bnl HB HBW x.2)).out
        simp only[forall_and] at xx
        obtain⟨xx0,xx1⟩:=xx
        refine wp_region_later (by kernel_rfl) (by kernel_rfl) ?_
        repeat (first|go_big_quiet_step (((first|(go_at_call 26;with_reducible refine Later.call (HAOL _).out)|(go_at_call 26;with_reducible refine Later.call (HAXL _).out)|(go_at_call 26;with_reducible refine Later.call (HAYL _).out)|(go_at_call 33;with_reducible refine Later.call (HFTL _).out)|(go_at_call 33;with_reducible refine Later.call (HFYL _).out)|(go_at_call 84;with_reducible refine Later.call (HTX _).out)|(go_at_call 84;with_reducible refine Later.call (HTY _).out)|(go_at_call 101;with_reducible refine Later.call (HAR _).out))))|quiet_step (((first|(go_at_call 26;with_reducible refine Later.call (HAOL _).out)|(go_at_call 26;with_reducible refine Later.call (HAXL _).out)|(go_at_call 26;with_reducible refine Later.call (HAYL _).out)|(go_at_call 33;with_reducible refine Later.call (HFTL _).out)|(go_at_call 33;with_reducible refine Later.call (HFYL _).out)|(go_at_call 84;with_reducible refine Later.call (HTX _).out)|(go_at_call 84;with_reducible refine Later.call (HTY _).out)|(go_at_call 101;with_reducible refine Later.call (HAR _).out)))))
        refine wpQuiet_nil ?_
        intro wt hw7
        have hb7:=later_below hw7
        clear hw7
        have HB:=Lib.hid (bnl HB HBW hb7)
        clear xx0 xx1
        clear qx0 qx1 rx0
        obtain⟨qx0,qx1⟩:=(HC _ HB.out).out
        have HI:=Lib.hid (HIC.out.later hb7);have HX:=Lib.hid (below_step hb7 HXC.out);have HB1:=Lib.hid (below_step hb7 HBC.out);obtain⟨c8,c9⟩:=(HCA _ HB1.out).out;obtain⟨d8,d9⟩:=(HCY _ HI.out.blw).out
        clear hb7
        have rx0:=(HZ _ HB.out.size).out
        go_wp2_with (first|(at_builtin;go_loud (refine wpList_append_near _ rfl (.tmp 60) (.tmp 65) 33 rfl ws.heap.size 91 i0 (.agg #[.int .i64 0, .bool false]) 2 16 Tryz.underlying33 hi hz0 hz1 hz2 rfl (by decide) lv _ _ rfl (HI.out.own.alloc _) ⟨wt.heap.size,0,none⟩ 1 1 [.int .i64 x.edge, .bool x.back] rfl (by decide) rfl (cell_list_at _ [.int .i64 x.edge, .bool x.back] _ rfl) (by intro u hu;simp at hu;rcases hu with rfl|rfl<;>rfl) (by have h9:=HI.out.len;(try simp only[List.length_append,List.length_singleton,if_true,Bool.false_eq_true,if_false] at h9);(try simp only[List.length_append,List.length_singleton,if_true,Bool.false_eq_true,if_false]);unfold maxLen;omega) (by have h9:=HI.out.len;(try simp only[List.length_append,List.length_singleton,if_true,Bool.false_eq_true,if_false] at h9);(try simp only[List.length_append,List.length_singleton,if_true,Bool.false_eq_true,if_false]);omega) (by have:=HI.out.blw.size;simp;omega) ?_;intro g6 capg6 w6 hown hgr hat;have Hw6:=Lib.hid (HI.out.add (y:=x) (d':=true) (j':=i) hown hgr (by simpa using HS2.out) (by have h9:=HI.out.len;(try simp only[List.length_append,List.length_singleton,if_true,Bool.false_eq_true,if_false] at h9);(try simp only[List.length_append,List.length_singleton,if_true,Bool.false_eq_true,if_false]);omega));clear hown hgr hat;obtain⟨d8,d9⟩:=(HCY _ Hw6.out.blw).out))|(at_builtin;go_loud (refine wpList_append_near _ rfl (.tmp 67) (.tmp 72) 33 rfl ws.heap.size 91 i0 (.agg #[.int .i64 0, .bool false]) 2 16 Tryz.underlying33 hi hz0 hz1 hz2 rfl (by decide) (.slice (some ⟨g6,0,none⟩) (l.length+1) capg6) _ _ rfl (Hw6.out.own.alloc _) ⟨w6.heap.size,0,none⟩ 1 1 [.int .i64 y.edge, .bool y.back] rfl (by decide) rfl (cell_list_at _ [.int .i64 y.edge, .bool y.back] _ rfl) (by intro u hu;simp at hu;rcases hu with rfl|rfl<;>rfl) (by have h9:=Hw6.out.len;(try simp only[List.length_append,List.length_singleton,if_true,Bool.false_eq_true,if_false] at h9);(try simp only[List.length_append,List.length_singleton,if_true,Bool.false_eq_true,if_false]);unfold maxLen;omega) (by have h9:=Hw6.out.len;(try simp only[List.length_append,List.length_singleton,if_true,Bool.false_eq_true,if_false] at h9);(try simp only[List.length_append,List.length_singleton,if_true,Bool.false_eq_true,if_false]);omega) (by have:=Hw6.out.blw.size;simp;omega) ?_;intro g7 capg7 w7 hown hgr hat;have Hw7:=Lib.hid (Hw6.out.add (y:=y) (d':=true) (j':=(i+1)) hown hgr (by simpa using HDR.out) (by have h9:=Hw6.out.len;(try simp only[List.length_append,List.length_singleton,if_true,Bool.false_eq_true,if_false] at h9);(try simp only[List.length_append,List.length_singleton,if_true,Bool.false_eq_true,if_false]);omega));clear hown hgr hat)))
        go_roundw
        case rel=>
         have h:=Hw7.out
         rw[List.length_append] at h
         exact⟨i+1,true,_,_,by omega,by go_num,rfl,rfl,h⟩
        case measure=>simp[intOf];omega
       ·have HS2:=Lib.hid (show insH (ltH p id) x (L.drop i)=y::insH (ltH p id) x (L.drop (i+1)) from by rw[HDR.out];show(if ltH p id x y=true then _ else _)=_;rw[HLT.out,decide_eq_false hz,if_neg (by decide)])
        go_wp2_with fail
        refine wp_name (fun c8 hc8=> ?_)
        have HB:=bnm HB HBW hc8
        have HIC:=Lib.hid (hc8▸HI.out);have HXC:=Lib.hid (hc8▸HX.out);have HBC:=Lib.hid (hc8▸HB1.out);have HAOL:=fun(x0:Later c8)=>HAO x0.1 (below_step x0.2 HXC.out);have HAXL:=fun(x0:Later c8)=>HAX x0.1 (below_step x0.2 HXC.out);have HAYL:=fun(x0:Later c8)=>HAY x0.1 (below_step x0.2 HXC.out);have HFTL:=fun(x0:Later c8)=>HFT x0.1 (below_step x0.2 HXC.out);have HFYL:=fun(x0:Later c8)=>HFY x0.1 (below_step x0.2 HXC.out);have y8:=fun(x0:Later c8)=>(HCA x0.1 (below_step x0.2 HBC.out)).out;have y9:=fun(x0:Later c8)=>(HCY x0.1 (below_step x0.2 HIC.out.blw)).out
        clear hc8
        have xx:=fun(x:Later c8)=>(HC _ (bnl HB HBW x.2)).out
        simp only[forall_and] at xx
        obtain⟨xx0,xx1⟩:=xx
        refine wp_region_later (by kernel_rfl) (by kernel_rfl) ?_
        repeat (first|go_big_quiet_step (((first|(go_at_call 26;with_reducible refine Later.call (HAOL _).out)|(go_at_call 26;with_reducible refine Later.call (HAXL _).out)|(go_at_call 26;with_reducible refine Later.call (HAYL _).out)|(go_at_call 33;with_reducible refine Later.call (HFTL _).out)|(go_at_call 33;with_reducible refine Later.call (HFYL _).out)|(go_at_call 84;with_reducible refine Later.call (HTX _).out)|(go_at_call 84;with_reducible refine Later.call (HTY _).out)|(go_at_call 101;with_reducible refine Later.call (HAR _).out))))|quiet_step (((first|(go_at_call 26;with_reducible refine Later.call (HAOL _).out)|(go_at_call 26;with_reducible refine Later.call (HAXL _).out)|(go_at_call 26;with_reducible refine Later.call (HAYL _).out)|(go_at_call 33;with_reducible refine Later.call (HFTL _).out)|(go_at_call 33;with_reducible refine Later.call (HFYL _).out)|(go_at_call 84;with_reducible refine Later.call (HTX _).out)|(go_at_call 84;with_reducible refine Later.call (HTY _).out)|(go_at_call 101;with_reducible refine Later.call (HAR _).out)))))
        refine wpQuiet_nil ?_
        intro wt hw8
        have hb8:=later_below hw8
        clear hw8
        have HB:=Lib.hid (bnl HB HBW hb8)
        clear xx0 xx1
        clear qx0 qx1 rx0
        obtain⟨qx0,qx1⟩:=(HC _ HB.out).out
        have HI:=Lib.hid (HIC.out.later hb8);have HX:=Lib.hid (below_step hb8 HXC.out);have HB1:=Lib.hid (below_step hb8 HBC.out);obtain⟨c8,c9⟩:=(HCA _ HB1.out).out;obtain⟨d8,d9⟩:=(HCY _ HI.out.blw).out
        clear hb8
        have rx0:=(HZ _ HB.out.size).out
        go_wp2_with (at_builtin;go_loud (refine wpList_append_near _ rfl (.tmp 67) (.tmp 72) 33 rfl ws.heap.size 91 i0 (.agg #[.int .i64 0, .bool false]) 2 16 Tryz.underlying33 hi hz0 hz1 hz2 rfl (by decide) lv _ _ rfl (HI.out.own.alloc _) ⟨wt.heap.size,0,none⟩ 1 1 [.int .i64 y.edge, .bool y.back] rfl (by decide) rfl (cell_list_at _ [.int .i64 y.edge, .bool y.back] _ rfl) (by intro u hu;simp at hu;rcases hu with rfl|rfl<;>rfl) (by have h9:=HI.out.len;(try simp only[List.length_append,List.length_singleton,if_true,Bool.false_eq_true,if_false] at h9);(try simp only[List.length_append,List.length_singleton,if_true,Bool.false_eq_true,if_false]);unfold maxLen;omega) (by have h9:=HI.out.len;(try simp only[List.length_append,List.length_singleton,if_true,Bool.false_eq_true,if_false] at h9);(try simp only[List.length_append,List.length_singleton,if_true,Bool.false_eq_true,if_false]);omega) (by have:=HI.out.blw.size;simp;omega) ?_;intro g6 capg6 w6 hown hgr hat;have Hw6:=Lib.hid (HI.out.add (y:=y) (d':=false) (j':=(i+1)) hown hgr (by simpa using HS2.out) (by have h9:=HI.out.len;(try simp only[List.length_append,List.length_singleton,if_true,Bool.false_eq_true,if_false] at h9);(try simp only[List.length_append,List.length_singleton,if_true,Bool.false_eq_true,if_false]);omega));clear hown hgr hat))
        go_roundw
        case rel=>exact⟨i+1,false,_,_,by omega,by go_num,rfl,rfl,Hw6.out⟩
        case measure=>simp[intOf];omega
      ·go_wp2_with fail
       refine wp_name (fun c9 hc9=> ?_)
       have HB:=bnm HB HBW hc9
       have HIC:=Lib.hid (hc9▸HI.out);have HXC:=Lib.hid (hc9▸HX.out);have HBC:=Lib.hid (hc9▸HB1.out);have HAOL:=fun(x0:Later c9)=>HAO x0.1 (below_step x0.2 HXC.out);have HAXL:=fun(x0:Later c9)=>HAX x0.1 (below_step x0.2 HXC.out);have HAYL:=fun(x0:Later c9)=>HAY x0.1 (below_step x0.2 HXC.out);have HFTL:=fun(x0:Later c9)=>HFT x0.1 (below_step x0.2 HXC.out);have HFYL:=fun(x0:Later c9)=>HFY x0.1 (below_step x0.2 HXC.out);have y8:=fun(x0:Later c9)=>(HCA x0.1 (below_step x0.2 HBC.out)).out;have y9:=fun(x0:Later c9)=>(HCY x0.1 (below_step x0.2 HIC.out.blw)).out
       clear hc9
       have xx:=fun(x:Later c9)=>(HC _ (bnl HB HBW x.2)).out
       simp only[forall_and] at xx
       obtain⟨xx0,xx1⟩:=xx
       refine wp_region_later (by kernel_rfl) (by kernel_rfl) ?_
       repeat (first|go_big_quiet_step (((first|(go_at_call 26;with_reducible refine Later.call (HAOL _).out)|(go_at_call 26;with_reducible refine Later.call (HAXL _).out)|(go_at_call 26;with_reducible refine Later.call (HAYL _).out)|(go_at_call 33;with_reducible refine Later.call (HFTL _).out)|(go_at_call 33;with_reducible refine Later.call (HFYL _).out)|(go_at_call 84;with_reducible refine Later.call (HTX _).out)|(go_at_call 84;with_reducible refine Later.call (HTY _).out)|(go_at_call 101;with_reducible refine Later.call (HAR _).out))))|quiet_step (((first|(go_at_call 26;with_reducible refine Later.call (HAOL _).out)|(go_at_call 26;with_reducible refine Later.call (HAXL _).out)|(go_at_call 26;with_reducible refine Later.call (HAYL _).out)|(go_at_call 33;with_reducible refine Later.call (HFTL _).out)|(go_at_call 33;with_reducible refine Later.call (HFYL _).out)|(go_at_call 84;with_reducible refine Later.call (HTX _).out)|(go_at_call 84;with_reducible refine Later.call (HTY _).out)|(go_at_call 101;with_reducible refine Later.call (HAR _).out)))))
       refine wpQuiet_nil ?_
       intro wt hw9
       have hb9:=later_below hw9
       clear hw9
       have HB:=Lib.hid (bnl HB HBW hb9)
       clear xx0 xx1
       clear qx0 qx1 rx0
       obtain⟨qx0,qx1⟩:=(HC _ HB.out).out
       have HI:=Lib.hid (HIC.out.later hb9);have HX:=Lib.hid (below_step hb9 HXC.out);have HB1:=Lib.hid (below_step hb9 HBC.out);obtain⟨c8,c9⟩:=(HCA _ HB1.out).out;obtain⟨d8,d9⟩:=(HCY _ HI.out.blw).out
       clear hb9
       have rx0:=(HZ _ HB.out.size).out
       go_wp2_with (at_builtin;go_loud (refine wpList_append_near _ rfl (.tmp 67) (.tmp 72) 33 rfl ws.heap.size 91 i0 (.agg #[.int .i64 0, .bool false]) 2 16 Tryz.underlying33 hi hz0 hz1 hz2 rfl (by decide) lv _ _ rfl (HI.out.own.alloc _) ⟨wt.heap.size,0,none⟩ 1 1 [.int .i64 y.edge, .bool y.back] rfl (by decide) rfl (cell_list_at _ [.int .i64 y.edge, .bool y.back] _ rfl) (by intro u hu;simp at hu;rcases hu with rfl|rfl<;>rfl) (by have h9:=HI.out.len;(try simp only[List.length_append,List.length_singleton,if_true,Bool.false_eq_true,if_false] at h9);(try simp only[List.length_append,List.length_singleton,if_true,Bool.false_eq_true,if_false]);unfold maxLen;omega) (by have h9:=HI.out.len;(try simp only[List.length_append,List.length_singleton,if_true,Bool.false_eq_true,if_false] at h9);(try simp only[List.length_append,List.length_singleton,if_true,Bool.false_eq_true,if_false]);omega) (by have:=HI.out.blw.size;simp;omega) ?_;intro g6 capg6 w6 hown hgr hat;have Hw6:=Lib.hid (HI.out.add (y:=y) (d':=true) (j':=(i+1)) hown hgr (by simpa using HDR.out) (by have h9:=HI.out.len;(try simp only[List.length_append,List.length_singleton,if_true,Bool.false_eq_true,if_false] at h9);(try simp only[List.length_append,List.length_singleton,if_true,Bool.false_eq_true,if_false]);omega));clear hown hgr hat))
       go_roundw
       case rel=>exact⟨i+1,true,_,_,by omega,by go_num,rfl,rfl,Hw6.out⟩
       case measure=>simp[intOf];omega
     ·have hdr:L.drop i=[]:=List.drop_of_length_le (by omega)
      cases d
      ·have HDE:=Lib.hid hdr
       clear hdr
       obtain⟨c8,c9⟩:=(HCA _ HB1.out).out
       go_wp2_with (at_builtin;go_loud (refine wpList_append_near _ rfl (.tmp 76) (.tmp 81) 33 rfl ws.heap.size 91 i0 (.agg #[.int .i64 0, .bool false]) 2 16 Tryz.underlying33 hi hz0 hz1 hz2 rfl (by decide) lv _ _ rfl (HI.out.own.alloc _) ⟨wr.heap.size,0,none⟩ 1 1 [.int .i64 x.edge, .bool x.back] rfl (by decide) rfl (cell_list_at _ [.int .i64 x.edge, .bool x.back] _ rfl) (by intro u hu;simp at hu;rcases hu with rfl|rfl<;>rfl) (by have h9:=HI.out.len;(try simp only[List.length_append,List.length_singleton,if_true,Bool.false_eq_true,if_false] at h9);(try simp only[List.length_append,List.length_singleton,if_true,Bool.false_eq_true,if_false]);unfold maxLen;omega) (by have h9:=HI.out.len;(try simp only[List.length_append,List.length_singleton,if_true,Bool.false_eq_true,if_false] at h9);(try simp only[List.length_append,List.length_singleton,if_true,Bool.false_eq_true,if_false]);omega) (by have:=HI.out.blw.size;simp;omega) ?_;intro g6 capg6 w6 hown hgr hat;have Hw6:=Lib.hid (HI.out.add (y:=x) (d':=true) (j':=i) hown hgr (by simp[HDE.out,insH]) (by have h9:=HI.out.len;(try simp only[List.length_append,List.length_singleton,if_true,Bool.false_eq_true,if_false] at h9);(try simp only[List.length_append,List.length_singleton,if_true,Bool.false_eq_true,if_false]);omega));clear hown hgr hat))
       go_roundw
       case rel=>
        have hs:=Hw6.out.sum
        simp only[if_true,HDE.out,List.append_nil] at hs
        refine⟨k+1,_,by omega,by go_num,rfl, ?_,below_step Hw6.out.blw HBS.out⟩
        rw[HN.out, ←hs]
        exact ownsRow_le Hw6.out.own HBS.out.size
       case measure=>simp[intOf];omega
      ·have hs:=HI.out.sum
       simp only[if_true,hdr,List.append_nil] at hs
       have HSS:=Lib.hid hs
       clear hs hdr
       obtain⟨la,lc,rfl⟩:=own_form HI.out.own
       go_wp2_with fail
       go_roundw
       case rel=>
        refine⟨k+1,_,by omega,by go_num,rfl, ?_,below_step HI.out.blw HBS.out⟩
        rw[HN.out, ←HSS.out]
        exact ownsRow_le HI.out.own HBS.out.size
       case measure=>simp[intOf];omega
  ·obtain rfl:M=k:=by omega
   obtain⟨oa,oc,rfl⟩:=own_form HOW.out
   have hT:outV p id (M)=outR p id:=by rw[←HLN.out,outV_all]
   have h1:=HOW.out
   rw[hT] at h1
   have HT:=Lib.hid h1
   have HTL:=Lib.hid (congrArg List.length hT)
   clear h1 hT
   generalize (outV p id (M)).length=m at HT HTL
   go_wp2_with fail
   go_ret
   exact⟨⟨oa,m,oc,rfl,HTL.out,by rw[HTL.out];exact ownsRow_le HT.out HX1.out.size⟩,HX.out⟩
end Go.Proofs.YthopjhifepijiaaGreat
namespace Go.Proofs.YthopjhifepijiaaGreat
open Go.RowKit Go.Joins
def hfF (h:Hf):Nat→Value
 |0=> .int .i64 h.edge
 |_=> .bool h.back
theorem res_hf {fn:Func} {p:Tmp} {tmps:Array Value} {W:World} {g:Nat} {q:Hf} (h:fn.results= #[.cell p 91]) (hp:tmps.getD p undef= .pointer (some ⟨g,0,none⟩)) (hr:W.rowIs g 91 2 (hfF q)):
  (results fn tmps).run Tryz.prog W= .ok (.agg #[.int .i64 q.edge, .bool q.back]) W:=by
 obtain⟨c,hc,hs,hi⟩:=hr
 have hcs:c= #[.int .i64 q.edge, .bool q.back]:=by
  apply Array.ext_getElem?
  intro i
  by_cases hlt:i<2
  ·rw[hi i hlt]
   rcases i with _|_|i<;>first|rfl|(exfalso;omega)
  ·rw[Array.getElem?_eq_none (by omega),Array.getElem?_eq_none (by simp;omega)]
 subst hcs
 exact results_cell_row h tmps W g _ _ _ _ hp hc Tryz.underlying91 rfl (by kernel_rfl)
theorem Tryz.results44:Tryz.f44.results= #[.cell 4 91]:=by kernel_rfl
theorem idxOf_at {l:List Hf} {k:Nat} {x:Hf} (h:l[k]? =some x) (hno: ∀y∈l.take k,y≠x):l.idxOf x=k:=by
 unfold List.idxOf
 refine idx_hit (x:=x) (fun y hy=>by simpa using hno y hy) h (by simp)
theorem nextP_at {p:PL} {h:Hf} {k:Nat} (hk:(outP p (toH p.es h))[k]? =some (twinH h)) (hno: ∀y∈(outP p (toH p.es h)).take k,y≠twinH h):
  (k=0→(outP p (toH p.es h))[(outP p (toH p.es h)).length - 1]? =some (nextP p h))∧(∀m,k=m+1→(outP p (toH p.es h))[m]? =some (nextP p h)):=by
 have hlt:=(List.getElem?_eq_some_iff.1 hk).1
 unfold nextP
 rw[idxOf_at hk hno,List.getD_eq_getElem?_getD]
 refine⟨fun e=> ?_,fun m e=> ?_⟩
 ·subst e
  rw[show(0+(outP p (toH p.es h)).length - 1) % (outP p (toH p.es h)).length=(outP p (toH p.es h)).length - 1 from by rw[Nat.zero_add];exact Nat.mod_eq_of_lt (by omega)]
  rw[List.getElem?_eq_getElem (by omega)]
  rfl
 ·subst e
  rw[show(m+1+(outP p (toH p.es h)).length - 1) % (outP p (toH p.es h)).length=m from by rw[show m+1+(outP p (toH p.es h)).length - 1=m+(outP p (toH p.es h)).length by omega,Nat.add_mod_right];exact Nat.mod_eq_of_lt (by omega)]
  rw[List.getElem?_eq_getElem (by omega)]
  rfl
set_option maxRecDepth 100000 in
set_option maxHeartbeats 8000000 in
theorem r16next_any {w:World} {B vn vc en ec:Nat} {va ea:Option Addr} {p:PL} (r:RightP p) (hv:VsIn w B va vn p.vs) (he:EsIn w B ea en p.es) (hB:B≤w.heap.size) (h:Hf) (hm:h∈halvesE p.es):
  Calls Tryz.prog 44 #[.agg #[.slice va vn vc, .slice ea en ec], .agg #[.int .i64 h.edge, .bool h.back]] w fun e w'=>e= .returned (.agg #[.int .i64 (nextP p h).edge, .bool (nextP p h).back])∧Below w.heap.size w w':=by
 have hn:en≤1024:=by have:=r.ne;have:=he.1;omega
 have hk:=mem_known hm
 have HTW:=fun W=>Lib.hid (r16twin_any h W)
 have HF:=fun(W:World) (hb:Below w.heap.size w W)=>Lib.hid (r16from_any (w:=W) (ec:=ec) (he.below (hb.mono hB)) (Nat.le_trans hB hb.size) (by omega) (.slice va vn vc) ⟨_,_,_,rfl⟩ (twinH h) hk)
 have HO:=fun(W:World) (hb:Below w.heap.size w W)=>Lib.hid (r16out_any (w:=W) (vc:=vc) (ec:=ec) r (hv.below (hb.mono hB)) (he.below (hb.mono hB)) (Nat.le_trans hB hb.size) (fromH p.es (twinH h)) (r.halfIn hk).to)
 have hlen:(outP p (toH p.es h)).length≤2048:=by
  rw[out_len]
  have:=leav_len p.es (toH p.es h)
  have:=r.ne
  omega
 have hmem:twinH h∈outP p (toH p.es h):=mem_out.2 ⟨twin_mem hm,rfl⟩
 have HAT:=fun(k:Nat)=> @nextP_at p h k
 obtain⟨N,hN⟩: ∃N,N=nextP p h:=⟨_,rfl⟩
 rw[←hN]
 rw[←hN] at HAT
 rw[show fromH p.es (twinH h)=toH p.es h from rfl] at HF HO
 generalize outP p (toH p.es h)=L at*
 generalize toH p.es h=t at*
 generalize twinH h=T at*
 have HMM:=Lib.hid hmem
 have HLL:=Lib.hid hlen
 obtain⟨hh,hbk⟩:=h
 obtain⟨te,tb⟩:=T
 simp only at*
 clear hv he hm hk hN r hmem
 go_enter Tryz.func44,Tryz.ntmps44
 go_wp2_with fail
 first|refine wp_name (fun W hW=> ?_)|refine calls_name (fun W hW=> ?_)
 have HW:Hid (Below w.heap.size w W):=Lib.hid (by rw[←hW];repeat (first|exact Below.refl _ _|refine below_alloc ?_))
 have HWs:Hid (W.heap.size=w.heap.size+1+1+1):=Lib.hid (by rw[←hW];simp)
 have HBW:Hid (W.heap.size≤W.heap.size):=Lib.hid (by have:=HWs.out;omega)
 have HC:=fun(W1:World) (hb:Below (W.heap.size) W W1)=>Lib.hid (show W1.cell? ⟨w.heap.size,0,none⟩=some (.slice va vn vc)∧W1.cell? ⟨w.heap.size,1,none⟩=some (.slice ea en ec)∧W1.cell? ⟨w.heap.size+1,0,none⟩=some (.int .i64 hh)∧W1.cell? ⟨w.heap.size+1,1,none⟩=some (.bool hbk)∧W1.cell? ⟨w.heap.size+1+1,0,none⟩=some (.int .i64 0)∧W1.cell? ⟨w.heap.size+1+1,1,none⟩=some (.bool false) from by have hs:=HWs.out;refine⟨?_, ?_, ?_, ?_, ?_, ?_⟩<;>(refine(hb.cell (by dsimp only;omega)).trans ?_;rw[←hW];clear hW;go_simp))
 have HB:=Lib.hid (Below.refl (W.heap.size) W)
 have HZ:=fun(W1:World) (hb:W.heap.size≤W1.heap.size)=>Lib.hid (show w.heap.size<W1.heap.size∧w.heap.size+1<W1.heap.size∧w.heap.size+1+1<W1.heap.size from by have:=HWs.out;refine⟨?_, ?_, ?_⟩<;>omega)
 obtain⟨qx0,qx1,qx2,qx3,qx4,qx5⟩:=(HC _ HB.out).out
 obtain⟨rx0,rx1,rx2⟩:=(HZ _ HB.out.size).out
 have HQ:=Lib.hid (show W.rowIs (w.heap.size+1+1) 91 2 (hfF ⟨0,false⟩) from by
  have:=World.rowIs_alloc ((w.alloc (.cells #[.slice va vn vc, .slice ea en ec] 25)).alloc (.cells #[.int .i64 hh, .bool hbk] 91)) #[.int .i64 0, .bool false] 91 (hfF ⟨0,false⟩) (fun i hi=>by rcases i with _|_|i<;>first|rfl|(simp at hi;omega))
  rw[hW] at this
  simpa using this)
 clear hW
 go_upto_region 1 with fail
 clear qx0 qx1 qx2 qx3 qx4 qx5 rx0 rx1 rx2
 have HY:=fun(w':World) (t:Below W.heap.size W w')=>Lib.hid (show w'.cell? ⟨w.heap.size,0,none⟩=some (.slice va vn vc)∧w'.cell? ⟨w.heap.size,1,none⟩=some (.slice ea en ec)∧w'.cell? ⟨w.heap.size+1,0,none⟩=some (.int .i64 hh)∧w'.cell? ⟨w.heap.size+1,1,none⟩=some (.bool hbk) from by
  obtain⟨d0,d1,d2,d3, -⟩:=(HC _ t).out
  exact⟨d0,d1,d2,d3⟩)
 have HS0:=Lib.hid (Below.refl W.heap.size W).drew
 refine wp_region_noPanic ?_
 refine wp_region_par3 6 6 (by kernel_rfl) (by kernel_rfl) (by simp) (by omega) (by kernel_rfl) (by kernel_rfl) (fun w':World=>Below W.heap.size W w') ?_
 refine par3_read (v:= ?_) 0 (by simp only[zga,zgb,zgc];rfl) (by kernel_rfl) (by rfl) HS0.out ?_ (fun _ _ _ h=>h) ?_
 rotate_left
 ·(intro w9 hSw;obtain⟨y0,y1,y2,y3⟩:=(HY w9 hSw).out;clear hSw;go_simp;try with_reducible rfl)
 simp only[Act.put,zpa,zpb,zpc]
 refine par3_read (v:= ?_) 1 (by simp only[zga,zgb,zgc];rfl) (by kernel_rfl) (by rfl) HS0.out ?_ (fun _ _ _ h=>h) ?_
 rotate_left
 ·(intro w9 hSw;obtain⟨y0,y1,y2,y3⟩:=(HY w9 hSw).out;clear hSw;go_simp;try with_reducible rfl)
 simp only[Act.put,zpa,zpb,zpc]
 refine par3_read (v:= ?_) 2 (by simp only[zga,zgb,zgc];rfl) (by kernel_rfl) (by rfl) HS0.out ?_ (fun _ _ _ h=>h) ?_
 rotate_left
 ·(intro w9 hSw;obtain⟨y0,y1,y2,y3⟩:=(HY w9 hSw).out;clear hSw;go_simp;try with_reducible rfl)
 simp only[Act.put,zpa,zpb,zpc]
 refine par3_nm (fun W0 hW0=> ?_)
 rw[←hW0] at HS0
 clear hW0
 refine par3_one 3 (by simp only[zga,zgb,zgc];rfl) (by kernel_rfl) (by rfl) ?_
 refine owp_call (by go_simp;constructor<;>rfl) ?_
 refine(HTW _).out.mono ?_
 rintro z W3 ⟨rfl,hb9⟩
 have HS3:=Lib.hid (below_next HS0.out HS0.out.size hb9)
 refine⟨_,rfl,fun s _=>HS3.out, ?_⟩
 clear hb9
 simp only[Act.put,zpa,zpb,zpc]
 refine par3_one 4 (by simp only[zga,zgb,zgc];rfl) (by kernel_rfl) (by rfl) ?_
 refine owp_call (by go_simp;constructor<;>rfl) ?_
 refine(HF _ (HW.out.trans (HS3.out.mono HW.out.size))).out.mono ?_
 rintro z W4 ⟨rfl,hb9⟩
 have HS4:=Lib.hid (below_next HS3.out HS3.out.size hb9)
 refine⟨_,rfl,fun s _=>HS4.out, ?_⟩
 clear hb9
 simp only[Act.put,zpa,zpb,zpc]
 refine par3_one 5 (by simp only[zga,zgb,zgc];rfl) (by kernel_rfl) (by rfl) ?_
 refine owp_call (by go_simp;constructor<;>rfl) ?_
 refine(HO _ (HW.out.trans (HS4.out.mono HW.out.size))).out.mono ?_
 rintro z W5 ⟨⟨oa,m,oc,rfl,hm5,hown⟩,hb9⟩
 have HB:=Lib.hid (below_next HS4.out HS4.out.size hb9)
 have HRW:=Lib.hid (hsIn_of_own hown hm5)
 have HML:=Lib.hid hm5
 have hm6:m≤2048:=by omega
 refine⟨_,rfl,fun s _=>HB.out, ?_⟩
 clear hb9 hown hm5
 simp only[Act.put,zpa,zpb,zpc]
 refine par3_tail _ (by simp only[List.drop_succ_cons,List.drop_zero];rfl) (by kernel_rfl) ?_
 clear hlen
 go_wp2_with fail
 refine NoPanic.normal ?_
 go_wp2_with fail
 clear HY HS0 HS3 HS4 HF HO
 go_loopw [6] (fun v wr=> ∃k:Nat,k≤m∧v= .int .i64 k∧(∀y∈L.take k,y≠⟨te,tb⟩)∧Below W5.heap.size W5 wr) (fun v _=>m - (intOf v).toNat)
 case atStart=>exact⟨0,Nat.zero_le _,rfl,fun y hy=>by simp at hy,Below.refl _ _⟩
 case round=>
  obtain⟨k,hk,rfl,hall,hb⟩:=hrel
  have HB5:=Lib.hid hb
  have HB:=Lib.hid (HB.out.trans (hb.mono HB.out.size))
  have HA:=Lib.hid hall
  have HX:=Lib.hid (HW.out.trans (HB.out.mono HW.out.size))
  clear hb hall
  obtain⟨qx0,qx1,qx2,qx3,qx4,qx5⟩:=(HC _ HB.out).out
  obtain⟨rx0,rx1,rx2⟩:=(HZ _ HB.out.size).out
  by_cases hlt:k<m
  ·obtain⟨ob,ooff,rfl,hob,hcell⟩:=HRW.out.row (by omega)
   obtain⟨v,hv⟩: ∃v,L[k]? =some v:=⟨_,List.getElem?_eq_getElem (by have:=HML.out;omega)⟩
   have HVK:=Lib.hid hv
   have HCV:=fun(W1:World) (hb:Below W5.heap.size W5 W1)=>Lib.hid (hcell W1 hb)
   clear hcell hv
   cases hq:decide (v=⟨te,tb⟩)
   ·have re:=eq_hf_of hq
    have HN:=Lib.hid (of_decide_eq_false hq)
    clear hq
    simp only at re
    go_wp2_with fail
    refine wp_name (fun c3 hc3=> ?_)
    have HB:=bnm HB HBW hc3
    have HBC:=Lib.hid (hc3▸HB5.out);have HXC:=Lib.hid (hc3▸HX.out);have y9:=fun(x0:Later c3)=>((HCV x0.1 (below_step x0.2 HBC.out)).out k v HVK.out)
    clear hc3
    have xx:=fun(x:Later c3)=>(HC _ (bnl HB HBW x.2)).out
    simp only[forall_and] at xx
    obtain⟨xx0,xx1,xx2,xx3,xx4,xx5⟩:=xx
    refine wp_region_later (by kernel_rfl) (by kernel_rfl) ?_
    repeat (first|go_big_quiet_step (((go_at_call 84;with_reducible refine Later.call (HTW _).out)))|quiet_step (((go_at_call 84;with_reducible refine Later.call (HTW _).out))))
    refine wpQuiet_nil ?_
    intro wt hw3
    have hb3:=later_below hw3
    clear hw3
    have HB:=Lib.hid (bnl HB HBW hb3)
    clear xx0 xx1 xx2 xx3 xx4 xx5
    clear qx0 qx1 qx2 qx3 qx4 qx5 rx0 rx1 rx2
    obtain⟨qx0,qx1,qx2,qx3,qx4,qx5⟩:=(HC _ HB.out).out
    have HB5:=Lib.hid (below_step hb3 HBC.out);have HX:=Lib.hid (below_step hb3 HXC.out)
    clear hb3
    obtain⟨rx0,rx1,rx2⟩:=(HZ _ HB.out.size).out
    go_wp2_with fail
    go_roundw
    case rel=>
     refine⟨k+1,by omega,by go_num,fun y hy=> ?_,HB5.out⟩
     rw[take_snoc' HVK.out] at hy
     rcases List.mem_append.1 hy with hy|hy
     ·exact HA.out y hy
     ·simp at hy;subst hy;exact HN.out
    case measure=>simp[intOf];omega
   ·have re:=eq_hf_of hq
    have hve:=of_decide_eq_true hq
    have hat:=HAT k (by rw[←hve];exact HVK.out) HA.out
    have HAA:=Lib.hid hat
    clear hq hve hat
    simp only at re
    go_wp2_with fail
    refine wp_name (fun c4 hc4=> ?_)
    have HB:=bnm HB HBW hc4
    have HBC:=Lib.hid (hc4▸HB5.out);have HXC:=Lib.hid (hc4▸HX.out);have y9:=fun(x0:Later c4)=>((HCV x0.1 (below_step x0.2 HBC.out)).out k v HVK.out)
    clear hc4
    have xx:=fun(x:Later c4)=>(HC _ (bnl HB HBW x.2)).out
    simp only[forall_and] at xx
    obtain⟨xx0,xx1,xx2,xx3,xx4,xx5⟩:=xx
    refine wp_region_later (by kernel_rfl) (by kernel_rfl) ?_
    repeat (first|go_big_quiet_step (((go_at_call 84;with_reducible refine Later.call (HTW _).out)))|quiet_step (((go_at_call 84;with_reducible refine Later.call (HTW _).out))))
    refine wpQuiet_nil ?_
    intro wt hw4
    have hb4:=later_below hw4
    clear hw4
    have HB:=Lib.hid (bnl HB HBW hb4)
    clear xx0 xx1 xx2 xx3 xx4 xx5
    clear qx0 qx1 qx2 qx3 qx4 qx5 rx0 rx1 rx2
    obtain⟨qx0,qx1,qx2,qx3,qx4,qx5⟩:=(HC _ HB.out).out
    have HB5:=Lib.hid (below_step hb4 HBC.out);have HX:=Lib.hid (below_step hb4 HXC.out)
    clear hb4
    obtain⟨rx0,rx1,rx2⟩:=(HZ _ HB.out.size).out
    have HQ1:=Lib.hid (rowIs_touch HQ.out (Touch.of_below (F:=[]) HB.out) (by simp))
    have f0:=fun i=>World.rowIs.frozen HQ1.out i
    rcases k with _|j
    ·obtain⟨m',rfl⟩: ∃m',m=m'+1:=⟨m - 1,by omega⟩
     obtain⟨n0,n1⟩:=(HCV _ HB5.out).out m' N (by have h1:=HAA.out.1 rfl;rw[←HML.out] at h1;exact h1)
     have hm7:m'<m'+1:=by omega
     go_wp2_with fail
     refine bodyPost_ret_by (res_hf (q:=N) Tryz.results44 rfl (World.rowIs.congr (World.rowIs.set (World.rowIs.set HQ1.out 0 _) 1 _) (fun i hi=>by rcases i with _|_|i<;>first|rfl|exact absurd hi (by omega)))) rfl ?_
     exact⟨rfl,((HX.out).setCell (p:=⟨w.heap.size+1+1,0,none⟩) (by show _≤w.heap.size+1+1;omega) _).setCell (p:=⟨w.heap.size+1+1,1,none⟩) (by show _≤w.heap.size+1+1;omega) _⟩
    ·obtain⟨n0,n1⟩:=(HCV _ HB5.out).out j N (HAA.out.2 j rfl)
     have hj7:j<m:=by omega
     go_wp2_with fail
     refine bodyPost_ret_by (res_hf (q:=N) Tryz.results44 rfl (World.rowIs.congr (World.rowIs.set (World.rowIs.set HQ1.out 0 _) 1 _) (fun i hi=>by rcases i with _|_|i<;>first|rfl|exact absurd hi (by omega)))) rfl ?_
     exact⟨rfl,((HX.out).setCell (p:=⟨w.heap.size+1+1,0,none⟩) (by show _≤w.heap.size+1+1;omega) _).setCell (p:=⟨w.heap.size+1+1,1,none⟩) (by show _≤w.heap.size+1+1;omega) _⟩
  ·exfalso
   have hmm:=HMM.out
   rw[←List.take_of_length_le (l:=L) (i:=k) (by have:=HML.out;omega)] at hmm
   exact HA.out _ hmm rfl
end Go.Proofs.YthopjhifepijiaaGreat
