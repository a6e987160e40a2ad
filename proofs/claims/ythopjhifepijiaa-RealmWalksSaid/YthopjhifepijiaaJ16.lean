/- Lemmas on the way to the statement. -/
import Derived.Test.YthopjhifepijiaaJ15
set_option linter.unusedSimpArgs false
set_option linter.unusedVariables false
namespace Go.Proofs.Ythopjhifepijiaa
open Go.RowKit Go.Joins
theorem results_cell2 {fn:Func} {p u:Tmp} {ty:TypeId} (h:fn.results= #[.cell p ty, .cell u ty]) (tmps:Array Value) (P:Program) (w:World):
  (results fn tmps).run P w=
   ((asAddr (tmps.getD p undef)).run P w).andThen fun a w₁=>((loadVar ty a).run P w₁).andThen fun v w₂=>((asAddr (tmps.getD u undef)).run P w₂).andThen fun b w₃=>((loadVar ty b).run P w₃).andThen fun x w₄=> .ok (.tuple #[v,x]) w₄:=by
 simp only[results,h]
 simp[Sem.run_bind,Result.andThen]
theorem pt_load {W:World} {g:Nat} {q:Pt} (hr:W.rowIs g 51 2 (ptF q)):(loadVar 51 ⟨g,0,none⟩).run Try.prog W= .ok (ptV q) W:=by
 obtain⟨c,hc,hs,hi⟩:=hr
 have hcs:c= #[.int .i64 q.x, .int .i64 q.y]:=by
  apply Array.ext_getElem?
  intro i
  by_cases hlt:i<2
  ·rw[hi i hlt]
   rcases i with _|_|i<;>first|rfl|(exfalso;omega)
  ·rw[Array.getElem?_eq_none (by omega),Array.getElem?_eq_none (by simp;omega)]
 subst hcs
 exact run_loadVar_row (P:=Try.prog) W g _ 51 _ _ _ hc Try.underlying51 rfl (by kernel_rfl)
theorem res_pt2 {fn:Func} {p u:Tmp} {tmps:Array Value} {W:World} {g k:Nat} {q r:Pt} (h:fn.results= #[.cell p 51, .cell u 51]) (hp:tmps.getD p undef= .pointer (some ⟨g,0,none⟩)) (hu:tmps.getD u undef= .pointer (some ⟨k,0,none⟩))
  (hr:W.rowIs g 51 2 (ptF q)) (hk:W.rowIs k 51 2 (ptF r)):(results fn tmps).run Try.prog W= .ok (.tuple #[ptV q,ptV r]) W:=by
 rw[results_cell2 h]
 simp only[hp,hu,asAddr,Sem.run_pure,Result.andThen_ok,pt_load hr,pt_load hk]
theorem Try.results51:Try.f51.results= #[.cell 4 51, .cell 5 51]:=by kernel_rfl
theorem endsP_from {p:PL} {h:Hf} (hk:hasE p.es h.edge=true):endsP p h=((findV p.vs (fromH p.es h)).at_,(findV p.vs (fromH p.es (twinH h))).at_):=by
 rw[fromH_find hk,fromH_find (h:=twinH h) hk]
 unfold endsP
 rw[show(twinH h).edge=h.edge from rfl,show(twinH h).back= !h.back from rfl]
 cases h.back<;>rfl
structure HalfIn (p:PL) (h:Hf):Prop where
 e:hasE p.es h.edge=true
 a:hasV p.vs (findE p.es h.edge).a=true
 b:hasV p.vs (findE p.es h.edge).b=true
theorem HalfIn.from_ {p:PL} {h:Hf} (k:HalfIn p h):hasV p.vs (fromH p.es h)=true:=by
 rw[fromH_find k.e]
 split
 ·exact k.b
 ·exact k.a
theorem HalfIn.to {p:PL} {h:Hf} (k:HalfIn p h):hasV p.vs (fromH p.es (twinH h))=true:=HalfIn.from_ (h:=twinH h) ⟨k.e,k.a,k.b⟩
theorem RightP.halfIn {p:PL} (r:RightP p) {h:Hf} (hk:hasE p.es h.edge=true):HalfIn p h:=by
 obtain⟨i,hi⟩: ∃i,p.es[i]? =some (findE p.es h.edge):=⟨_,(placeE_at hk).1⟩
 obtain⟨A,B,he⟩:=r.e i _ hi
 exact⟨hk,hasV_iff.2 ⟨A,he.pa⟩,hasV_iff.2 ⟨B,he.pb⟩⟩
set_option maxRecDepth 100000 in
set_option maxHeartbeats 8000000 in
theorem r17ends_any {w:World} {B vn vc en ec:Nat} {va ea:Option Addr} {p:PL} (hv:VsIn w B va vn p.vs) (he:EsIn w B ea en p.es) (hB:B≤w.heap.size) (hn:vn≤100000) (hm:en≤100000) (h:Hf) (hk:HalfIn p h):
  Calls Try.prog 51 #[.agg #[.slice va vn vc, .slice ea en ec], .agg #[.int .i64 h.edge, .bool h.back]] w fun e w'=>e= .returned (.tuple #[ptV (endsP p h).1,ptV (endsP p h).2])∧Below w.heap.size w w':=by
 have HF1:=fun(W:World) (hb:Below w.heap.size w W)=>Lib.hid (r16from_any (w:=W) (ec:=ec) (he.below (hb.mono hB)) (Nat.le_trans hB hb.size) hm (.slice va vn vc) ⟨_,_,_,rfl⟩ h hk.e)
 have HF2:=fun(W:World) (hb:Below w.heap.size w W)=>Lib.hid (r16from_any (w:=W) (ec:=ec) (he.below (hb.mono hB)) (Nat.le_trans hB hb.size) hm (.slice va vn vc) ⟨_,_,_,rfl⟩ (twinH h) hk.e)
 have HA1:=fun(W:World) (hb:Below w.heap.size w W)=>Lib.hid (r15at_any (w:=W) (vc:=vc) (hv.below (hb.mono hB)) (Nat.le_trans hB hb.size) hn (.slice ea en ec) ⟨_,_,_,rfl⟩ (fromH p.es h) hk.from_)
 have HA2:=fun(W:World) (hb:Below w.heap.size w W)=>Lib.hid (r15at_any (w:=W) (vc:=vc) (hv.below (hb.mono hB)) (Nat.le_trans hB hb.size) hn (.slice ea en ec) ⟨_,_,_,rfl⟩ (fromH p.es (twinH h)) hk.to)
 have HTW:=fun(W:World) (hb:Below w.heap.size w W)=>Lib.hid (r16twin_any h W)
 rw[endsP_from hk.e]
 clear hv he hk
 generalize twinH h=t at*
 generalize fromH p.es h=i1 at*
 generalize fromH p.es t=i2 at*
 generalize (findV p.vs i1).at_=PA at*
 generalize (findV p.vs i2).at_=PB at*
 obtain⟨hh,hbk⟩:=h
 obtain⟨tt,tbk⟩:=t
 simp only at*
 go_enter Try.func51,Try.ntmps51
 go_wp2_with fail
 first|refine wp_name (fun W hW=> ?_)|refine calls_name (fun W hW=> ?_)
 have HW:Hid (Below w.heap.size w W):=Lib.hid (by rw[←hW];repeat (first|exact Below.refl _ _|refine below_alloc ?_))
 have HWs:Hid (W.heap.size=w.heap.size+1+1+1+1):=Lib.hid (by rw[←hW];simp)
 have HBW:Hid (W.heap.size≤W.heap.size):=Lib.hid (by have:=HWs.out;omega)
 have HC:=fun(W1:World) (hb:Below (W.heap.size) W W1)=>Lib.hid (show W1.cell? ⟨w.heap.size,0,none⟩=some (.slice va vn vc)∧W1.cell? ⟨w.heap.size,1,none⟩=some (.slice ea en ec)∧W1.cell? ⟨w.heap.size+1,0,none⟩=some (.int .i64 hh)∧W1.cell? ⟨w.heap.size+1,1,none⟩=some (.bool hbk)∧W1.cell? ⟨w.heap.size+1+1,0,none⟩=some (.int .i64 0)∧W1.cell? ⟨w.heap.size+1+1,1,none⟩=some (.int .i64 0)∧W1.cell? ⟨w.heap.size+1+1+1,0,none⟩=some (.int .i64 0)∧W1.cell? ⟨w.heap.size+1+1+1,1,none⟩=some (.int .i64 0) from by exact⟨(hb.cell (p:=⟨w.heap.size,0,none⟩) (by show w.heap.size<W.heap.size;have:=HWs.out;omega)).trans (by rw[←hW];clear hW;go_simp),(hb.cell (p:=⟨w.heap.size,1,none⟩) (by show w.heap.size<W.heap.size;have:=HWs.out;omega)).trans (by rw[←hW];clear hW;go_simp),(hb.cell (p:=⟨w.heap.size+1,0,none⟩) (by show w.heap.size+1<W.heap.size;have:=HWs.out;omega)).trans (by rw[←hW];clear hW;go_simp),(hb.cell (p:=⟨w.heap.size+1,1,none⟩) (by show w.heap.size+1<W.heap.size;have:=HWs.out;omega)).trans (by rw[←hW];clear hW;go_simp),(hb.cell (p:=⟨w.heap.size+1+1,0,none⟩) (by show w.heap.size+1+1<W.heap.size;have:=HWs.out;omega)).trans (by rw[←hW];clear hW;go_simp),(hb.cell (p:=⟨w.heap.size+1+1,1,none⟩) (by show w.heap.size+1+1<W.heap.size;have:=HWs.out;omega)).trans (by rw[←hW];clear hW;go_simp),(hb.cell (p:=⟨w.heap.size+1+1+1,0,none⟩) (by show w.heap.size+1+1+1<W.heap.size;have:=HWs.out;omega)).trans (by rw[←hW];clear hW;go_simp),(hb.cell (p:=⟨w.heap.size+1+1+1,1,none⟩) (by show w.heap.size+1+1+1<W.heap.size;have:=HWs.out;omega)).trans (by rw[←hW];clear hW;go_simp)⟩)
 have HB:=Lib.hid (Below.refl (W.heap.size) W)
 obtain⟨q1_0,q1_1,q1_2,q1_3,q1_4,q1_5,q1_6,q1_7⟩:=(HC _ HB.out).out
 have r1_0:=Nat.lt_of_lt_of_le (show w.heap.size<W.heap.size by have:=HWs.out;omega) HB.out.size
 have r1_1:=Nat.lt_of_lt_of_le (show w.heap.size+1<W.heap.size by have:=HWs.out;omega) HB.out.size
 have r1_2:=Nat.lt_of_lt_of_le (show w.heap.size+1+1<W.heap.size by have:=HWs.out;omega) HB.out.size
 have r1_3:=Nat.lt_of_lt_of_le (show w.heap.size+1+1+1<W.heap.size by have:=HWs.out;omega) HB.out.size
 have HPA:=Lib.hid (show W.rowIs (w.heap.size+1+1) 51 2 (ptF ⟨0,0⟩) from by
  have:=(World.rowIs_alloc ((w.alloc (.cells #[.slice va vn vc, .slice ea en ec] 25)).alloc (.cells #[.int .i64 hh, .bool hbk] 45)) #[.int .i64 0, .int .i64 0] 51 (ptF ⟨0,0⟩) (ptF_get ⟨0,0⟩)).alloc (.cells #[.int .i64 0, .int .i64 0] 51)
  rw[hW] at this
  simpa using this)
 have HPB:=Lib.hid (show W.rowIs (w.heap.size+1+1+1) 51 2 (ptF ⟨0,0⟩) from by
  have:=World.rowIs_alloc (((w.alloc (.cells #[.slice va vn vc, .slice ea en ec] 25)).alloc (.cells #[.int .i64 hh, .bool hbk] 45)).alloc (.cells #[.int .i64 0, .int .i64 0] 51)) #[.int .i64 0, .int .i64 0] 51 (ptF ⟨0,0⟩) (ptF_get ⟨0,0⟩)
  rw[hW] at this
  simpa using this)
 clear hW
 clear q1_0 q1_1 q1_2 q1_3 q1_4 q1_5 q1_6 q1_7 r1_0 r1_1 r1_2 r1_3
 go_upto_region 1 with fail
 have HZR:=fun(W1:World) (t:Touch [w.heap.size+1+1] W W1)=>rowIs_touch HPB.out t (by simp)
 have HLO:=fun(W1:World) (t:Touch [w.heap.size+1+1] W W1)=>Lib.hid (HW.out.trans (Touch.below t HW.out.size (by intro b hb;simp at hb;omega)))
 have HY:=fun(w':World) (t:Touch [w.heap.size+1+1] W w')=>Lib.hid (show w'.cell? ⟨w.heap.size,0,none⟩=some (.slice va vn vc)∧w'.cell? ⟨w.heap.size,1,none⟩=some (.slice ea en ec)∧w'.cell? ⟨w.heap.size+1,0,none⟩=some (.int .i64 hh)∧w'.cell? ⟨w.heap.size+1,1,none⟩=some (.bool hbk) from by
  have hs:=HWs.out
  obtain⟨c0,c1,c2,c3, -⟩:=(HC W (Below.refl _ _)).out
  exact⟨(t.cell (p:=⟨w.heap.size,_,none⟩) (by show w.heap.size<_;omega) (by simp<;>omega)).trans c0,(t.cell (p:=⟨w.heap.size,_,none⟩) (by show w.heap.size<_;omega) (by simp<;>omega)).trans c1,(t.cell (p:=⟨w.heap.size+1,_,none⟩) (by show w.heap.size+1<_;omega) (by simp)).trans c2,(t.cell (p:=⟨w.heap.size+1,_,none⟩) (by show w.heap.size+1<_;omega) (by simp)).trans c3⟩)
 have HS0:=Lib.hid (Touch.refl [w.heap.size+1+1] W).drew
 refine wp_region_noPanic ?_
 refine wp_region_par3 12 12 (by kernel_rfl) (by kernel_rfl) (by simp) (by omega) (by kernel_rfl) (by kernel_rfl) (fun w':World=>Touch [w.heap.size+1+1] W w') ?_
 refine par3_read (v:= ?_) 0 (by simp only[zga,zgb,zgc];rfl) (by kernel_rfl) (by rfl) HS0.out ?_ (fun _ _ _ h=>h) ?_
 rotate_left
 ·(intro w9 hSw;obtain⟨y0,y1,y2,y3⟩:=(HY w9 hSw).out;clear hSw;go_simp;try with_reducible rfl)
 simp only[Act.put,zpa,zpb,zpc]
 refine par3_read (v:= ?_) 1 (by simp only[zga,zgb,zgc];rfl) (by kernel_rfl) (by rfl) HS0.out ?_ (fun _ _ _ h=>h) ?_
 rotate_left
 ·(intro w9 hSw;obtain⟨y0,y1,y2,y3⟩:=(HY w9 hSw).out;clear hSw;go_simp;try with_reducible rfl)
 simp only[Act.put,zpa,zpb,zpc]
 refine par3_read (v:= ?_) 2 (by simp only[zga,zgb,zgc];rfl) (by kernel_rfl) (by rfl) HS0.out ?_ (fun _ _ _ h=>h) ?_
 rotate_left
 ·(intro w9 hSw;obtain⟨y0,y1,y2,y3⟩:=(HY w9 hSw).out;clear hSw;go_simp;try with_reducible rfl)
 simp only[Act.put,zpa,zpb,zpc]
 refine par3_read (v:= ?_) 5 (by simp only[zga,zgb,zgc];rfl) (by kernel_rfl) (by rfl) HS0.out ?_ (fun _ _ _ h=>h) ?_
 rotate_left
 ·(intro w9 hSw;obtain⟨y0,y1,y2,y3⟩:=(HY w9 hSw).out;clear hSw;go_simp;try with_reducible rfl)
 simp only[Act.put,zpa,zpb,zpc]
 refine par3_read (v:= ?_) 6 (by simp only[zga,zgb,zgc];rfl) (by kernel_rfl) (by rfl) HS0.out ?_ (fun _ _ _ h=>h) ?_
 rotate_left
 ·(intro w9 hSw;obtain⟨y0,y1,y2,y3⟩:=(HY w9 hSw).out;clear hSw;go_simp;try with_reducible rfl)
 simp only[Act.put,zpa,zpb,zpc]
 refine par3_read (v:= ?_) 7 (by simp only[zga,zgb,zgc];rfl) (by kernel_rfl) (by rfl) HS0.out ?_ (fun _ _ _ h=>h) ?_
 rotate_left
 ·(intro w9 hSw;obtain⟨y0,y1,y2,y3⟩:=(HY w9 hSw).out;clear hSw;go_simp;try with_reducible rfl)
 simp only[Act.put,zpa,zpb,zpc]
 have HA0:=Lib.hid (show W.drew.rowIs (w.heap.size+1+1) 51 2 (ptF ⟨0,0⟩) from HPA.out)
 refine par3_nm (fun W0 hW0=> ?_)
 rw[←hW0] at HS0 HA0
 clear hW0
 refine par3_one 3 (by simp only[zga,zgb,zgc];rfl) (by kernel_rfl) (by rfl) ?_
 refine owp_call (by go_simp;constructor<;>rfl) ?_
 refine(HF1 _ (HLO _ HS0.out).out).out.mono ?_
 rintro x W3 ⟨rfl,hb9⟩
 have HS3:=Lib.hid (touch_later HS0.out hb9)
 have HR3:=Lib.hid (rowIs_touch HA0.out (Touch.of_below (F:=[]) hb9) (by simp))
 refine⟨_,rfl,fun s _=>HS3.out, ?_⟩
 clear hb9
 simp only[Act.put,zpa,zpb,zpc]
 refine par3_one 4 (by simp only[zga,zgb,zgc];rfl) (by kernel_rfl) (by rfl) ?_
 refine owp_call (by go_simp;constructor<;>rfl) ?_
 refine(HA1 _ (HLO _ HS3.out).out).out.mono ?_
 rintro x W4 ⟨rfl,hb9⟩
 have HS4:=Lib.hid (touch_later HS3.out hb9)
 have HR4:=Lib.hid (rowIs_touch HR3.out (Touch.of_below (F:=[]) hb9) (by simp))
 refine⟨_,rfl,fun s _=>HS4.out, ?_⟩
 clear hb9
 simp only[Act.put,zpa,zpb,zpc]
 refine par3_one 8 (by simp only[zga,zgb,zgc];rfl) (by kernel_rfl) (by rfl) ?_
 refine owp_call (by go_simp;constructor<;>rfl) ?_
 refine(HTW _ (HLO _ HS4.out).out).out.mono ?_
 rintro x W8 ⟨rfl,hb9⟩
 have HS8:=Lib.hid (touch_later HS4.out hb9)
 have HR8:=Lib.hid (rowIs_touch HR4.out (Touch.of_below (F:=[]) hb9) (by simp))
 refine⟨_,rfl,fun s _=>HS8.out, ?_⟩
 clear hb9
 simp only[Act.put,zpa,zpb,zpc]
 refine par3_one 9 (by simp only[zga,zgb,zgc];rfl) (by kernel_rfl) (by rfl) ?_
 refine owp_call (by go_simp;constructor<;>rfl) ?_
 refine(HF2 _ (HLO _ HS8.out).out).out.mono ?_
 rintro x W9 ⟨rfl,hb9⟩
 have HS9:=Lib.hid (touch_later HS8.out hb9)
 have HR9:=Lib.hid (rowIs_touch HR8.out (Touch.of_below (F:=[]) hb9) (by simp))
 refine⟨_,rfl,fun s _=>HS9.out, ?_⟩
 clear hb9
 simp only[Act.put,zpa,zpb,zpc]
 refine par3_one 10 (by simp only[zga,zgb,zgc];rfl) (by kernel_rfl) (by rfl) ?_
 refine owp_call (by go_simp;constructor<;>rfl) ?_
 refine(HA2 _ (HLO _ HS9.out).out).out.mono ?_
 rintro x W10 ⟨rfl,hb9⟩
 have HS10:=Lib.hid (touch_later HS9.out hb9)
 have HR10:=Lib.hid (rowIs_touch HR9.out (Touch.of_below (F:=[]) hb9) (by simp))
 refine⟨_,rfl,fun s _=>HS10.out, ?_⟩
 clear hb9
 simp only[Act.put,zpa,zpb,zpc]
 refine par3_one 11 (by simp only[zga,zgb,zgc];rfl) (by kernel_rfl) (by rfl) ?_
 have f0:=World.rowIs.frozen HR10.out 0
 have f1:=World.rowIs.frozen HR10.out 1
 have p0:=World.rowIs.cell HR10.out (i:=0) (by decide)
 have p1:=World.rowIs.cell HR10.out (i:=1) (by decide)
 refine owp_skip (w1:= ?_) ?_ ?_
 rotate_left
 ·(go_simp;first|rfl|(constructor<;>rfl))
 refine⟨fun s _=>(s.setCell (.inl (by simp)) _).setCell (.inl (by simp)) _, ?_⟩
 simp only[Act.put,zpa,zpb,zpc]
 clear f0 f1 p0 p1
 have HS11:=Lib.hid ((HS10.out.setCell (p:=⟨w.heap.size+1+1,0,none⟩) (.inl (by simp)) (.int .i64 PA.x)).setCell (p:=⟨w.heap.size+1+1,1,none⟩) (.inl (by simp)) (.int .i64 PA.y))
 have HR11:=Lib.hid (World.rowIs.congr (f:=_) (g:=ptF PA) (World.rowIs.set (World.rowIs.set HR10.out 0 (.int .i64 PA.x)) 1 (.int .i64 PA.y)) (fun i hi=>by rcases i with _|_|i<;>first|rfl|exact absurd hi (by omega)))
 refine par3_nm (fun W11 hW9=> ?_)
 rw[←hW9] at HS11 HR11
 clear hW9
 have HZ:=Lib.hid (HZR _ HS11.out)
 have f0:=World.rowIs.frozen HZ.out 0
 have f1:=World.rowIs.frozen HZ.out 1
 have p0:=World.rowIs.cell HZ.out (i:=0) (by decide)
 have p1:=World.rowIs.cell HZ.out (i:=1) (by decide)
 refine par3_tail _ (by simp only[List.drop_succ_cons,List.drop_zero];rfl) (by kernel_rfl) ?_
 go_wp2_with fail
 refine NoPanic.normal ?_
 go_wp2_with fail
 refine bodyPost_ret_by (res_pt2 (q:=PA) (r:=PB) Try.results51 rfl rfl (rowIs_touch (F:=[w.heap.size+1+1+1]) HR11.out (((Touch.refl _ _).setCell (.inl (by simp)) _).setCell (.inl (by simp)) _) (by simp)) (World.rowIs.congr (World.rowIs.set (World.rowIs.set HZ.out 0 _) 1 _) (fun i hi=>by rcases i with _|_|i<;>first|rfl|exact absurd hi (by omega)))) rfl ?_
 exact⟨rfl,((HLO _ HS11.out).out.setCell (p:=⟨w.heap.size+1+1+1,0,none⟩) (by show _≤w.heap.size+1+1+1;omega) _).setCell (p:=⟨w.heap.size+1+1+1,1,none⟩) (by show _≤w.heap.size+1+1+1;omega) _⟩
end Go.Proofs.Ythopjhifepijiaa
namespace Go.Proofs.Ythopjhifepijiaa
open Go.RowKit Go.Joins
theorem plJ_cases (es:List Ed) (id:Int):(hasE es id=true∧ ¬plJ es id<0)∨(hasE es id=false∧plJ es id<0):=by
 unfold plJ
 cases hasE es id
 ·exact .inr ⟨rfl,by simp⟩
 ·exact .inl ⟨rfl,by simp⟩
theorem HsIn.row {w:World} {B:Nat} {a:Option Addr} {n:Nat} {R:List Hf} (h:HsIn w B a n R) (hn:0<n): ∃b off,a=some ⟨b,off,none⟩∧b<B∧ ∀w',Below B w w'→ ∀i x,R[i]? =some x→
  w'.cell? ⟨b,off+i*2,none⟩=some (.int .i64 x.edge)∧w'.cell? ⟨b,off+i*2+1,none⟩=some (.bool x.back):=by
 obtain⟨h1,h2|⟨b,off,ha,hlt,hc⟩⟩:=h
 ·omega
 ·exact⟨b,off,ha,hlt,fun w' hb i v hv=>⟨(hb.cell (p:=⟨b,_,none⟩) hlt).trans (hc i v hv).1,(hb.cell (p:=⟨b,_,none⟩) hlt).trans (hc i v hv).2⟩⟩
set_option maxRecDepth 100000 in
set_option maxHeartbeats 4000000 in
theorem r17known_any {w:World} {B en ec n c:Nat} {ea a:Option Addr} {es:List Ed} {R:List Hf} (he:EsIn w B ea en es) (hr:HsIn w B a n R) (hB:B≤w.heap.size) (hm:en≤100000) (hl:n≤100000) (vs:Value) (hes: ∃a n c,vs= .slice a n c):
  Calls Try.prog 50 #[.agg #[vs, .slice ea en ec], .slice a n c] w fun e w'=>e= .returned (.bool (R.all fun h=>hasE es h.edge))∧Below w.heap.size w w':=by
 obtain⟨va,vn,vc,rfl⟩:=hes
 have HED:=fun(W:World) (hb:Below w.heap.size w W) (id:Int)=>Lib.hid (r15edge_any (w:=W) (ec:=ec) (he.below (hb.mono hB)) (Nat.le_trans hB hb.size) hm (.slice va vn vc) ⟨_,_,_,rfl⟩ id)
 have HRS:=Lib.hid hr
 have HL:=Lib.hid hr.1
 clear he hr
 go_enter Try.func50,Try.ntmps50
 go_wp2_with fail
 first|refine wp_name (fun W hW=> ?_)|refine calls_name (fun W hW=> ?_)
 have HW:Hid (Below w.heap.size w W):=Lib.hid (by rw[←hW];repeat (first|exact Below.refl _ _|refine below_alloc ?_))
 have HWs:Hid (W.heap.size=w.heap.size+1):=Lib.hid (by rw[←hW];simp)
 have HBW:Hid (W.heap.size≤W.heap.size):=Lib.hid (by have:=HWs.out;omega)
 have HC:=fun(W1:World) (hb:Below (W.heap.size) W W1)=>Lib.hid (show W1.cell? ⟨w.heap.size,0,none⟩=some (.slice va vn vc)∧W1.cell? ⟨w.heap.size,1,none⟩=some (.slice ea en ec) from by exact⟨(hb.cell (p:=⟨w.heap.size,0,none⟩) (by show w.heap.size<W.heap.size;have:=HWs.out;omega)).trans (by rw[←hW];clear hW;go_simp),(hb.cell (p:=⟨w.heap.size,1,none⟩) (by show w.heap.size<W.heap.size;have:=HWs.out;omega)).trans (by rw[←hW];clear hW;go_simp)⟩)
 have HB:=Lib.hid (Below.refl (W.heap.size) W)
 clear hW
 obtain⟨q1_0,q1_1⟩:=(HC _ HB.out).out
 have r1_0:=Nat.lt_of_lt_of_le (show w.heap.size<W.heap.size by have:=HWs.out;omega) HB.out.size
 clear q1_0 q1_1 r1_0
 go_loopw [5] (fun v wr=> ∃k:Nat,k≤n∧v= .int .i64 k∧(∀y∈R.take k,hasE es y.edge=true)∧Below W.heap.size W wr) (fun v _=>n - (intOf v).toNat)
 case atStart=>exact⟨0,Nat.zero_le _,rfl,fun y hy=>by simp at hy,HB.out⟩
 case round=>
  clear HB
  obtain⟨k,hk,rfl,hall,hb⟩:=hrel
  have HB:=Lib.hid hb
  have HA:=Lib.hid hall
  clear hb hall
  obtain⟨q2_0,q2_1⟩:=(HC _ HB.out).out
  have r2_0:=Nat.lt_of_lt_of_le (show w.heap.size<W.heap.size by have:=HWs.out;omega) HB.out.size
  by_cases hlt:k<n
  ·obtain⟨rb,roff,rfl,hrb,hcell⟩:=HRS.out.row (by omega)
   have HCR:=fun(W1:World) (hb:Below w.heap.size w W1) (i:Nat) (u:Hf) (hi:R[i]? =some u)=>Lib.hid (hcell W1 (hb.mono hB) i u hi)
   clear hcell
   obtain⟨v,hv⟩: ∃v,R[k]? =some v:=⟨_,List.getElem?_eq_getElem (by have:=HL.out;omega)⟩
   have HVK:=Lib.hid hv
   clear hv
   have hxa:=plJ_cases es v.edge
   have HEX:=fun(W1:World) (hb:Below w.heap.size w W1)=>HED W1 hb v.edge
   generalize plJ es v.edge=z at hxa HEX
   rcases hxa with ⟨h1,h2⟩|⟨h1,h2⟩
   ·have HK:=Lib.hid h1
    clear h1
    go_wp2_with fail
    refine wp_name (fun c3 hc3=> ?_)
    have HB:=Lib.hid (below_name (below_next HB.out (Nat.le_trans HBW.out HB.out.size) (by repeat (first|exact Below.refl _ _|refine below_alloc ?_))) hc3)
    have YB:=fun(x:Later c3)=>HW.out.trans ((below_next HB.out (Nat.le_trans HBW.out HB.out.size) x.2).mono HW.out.size);have HEL:=fun(x:Later c3)=>HEX x.1 (YB x);have y9:=fun(x:Later c3)=>(HCR x.1 (YB x) k v HVK.out).out.1;clear YB
    clear hc3
    have x3_0:=fun(x:Later c3)=>(HC _ (below_next HB.out (Nat.le_trans HBW.out HB.out.size) x.2)).out.1
    have x3_1:=fun(x:Later c3)=>(HC _ (below_next HB.out (Nat.le_trans HBW.out HB.out.size) x.2)).out.2
    refine wp_region_later (by kernel_rfl) (by kernel_rfl) ?_
    repeat (first|go_big_quiet_step (((go_at_call 81;with_reducible refine Later.call (HEL _).out)))|quiet_step (((go_at_call 81;with_reducible refine Later.call (HEL _).out))))
    refine wpQuiet_nil ?_
    intro w3 hw3
    have hb3:=later_below hw3
    clear hw3
    have HB:=Lib.hid (below_next HB.out (Nat.le_trans HBW.out HB.out.size) hb3)
    clear x3_0 x3_1
    clear q2_0 q2_1 r2_0
    obtain⟨q3_0,q3_1⟩:=(HC _ HB.out).out
    skip
    clear hb3
    have r3_0:=Nat.lt_of_lt_of_le (show w.heap.size<W.heap.size by have:=HWs.out;omega) HB.out.size
    go_wp2_with fail
    go_roundw
    case rel=>
     refine⟨k+1,by omega,by go_num,fun y hy=> ?_,HB.out⟩
     rw[take_snoc' HVK.out] at hy
     rcases List.mem_append.1 hy with hy|hy
     ·exact HA.out y hy
     ·simp at hy;subst hy;exact HK.out
    case measure=>simp[intOf];omega
   ·have F:=Lib.hid (show(R.all fun h=>hasE es h.edge)=false from by
     rw[List.all_eq_false]
     exact⟨v,List.mem_of_getElem? HVK.out,by rw[h1];decide⟩)
    clear h1
    go_wp2_with fail
    refine wp_name (fun c4 hc4=> ?_)
    have HB:=Lib.hid (below_name (below_next HB.out (Nat.le_trans HBW.out HB.out.size) (by repeat (first|exact Below.refl _ _|refine below_alloc ?_))) hc4)
    have YB:=fun(x:Later c4)=>HW.out.trans ((below_next HB.out (Nat.le_trans HBW.out HB.out.size) x.2).mono HW.out.size);have HEL:=fun(x:Later c4)=>HEX x.1 (YB x);have y9:=fun(x:Later c4)=>(HCR x.1 (YB x) k v HVK.out).out.1;clear YB
    clear hc4
    have x4_0:=fun(x:Later c4)=>(HC _ (below_next HB.out (Nat.le_trans HBW.out HB.out.size) x.2)).out.1
    have x4_1:=fun(x:Later c4)=>(HC _ (below_next HB.out (Nat.le_trans HBW.out HB.out.size) x.2)).out.2
    refine wp_region_later (by kernel_rfl) (by kernel_rfl) ?_
    repeat (first|go_big_quiet_step (((go_at_call 81;with_reducible refine Later.call (HEL _).out)))|quiet_step (((go_at_call 81;with_reducible refine Later.call (HEL _).out))))
    refine wpQuiet_nil ?_
    intro w4 hw4
    have hb4:=later_below hw4
    clear hw4
    have HB:=Lib.hid (below_next HB.out (Nat.le_trans HBW.out HB.out.size) hb4)
    clear x4_0 x4_1
    clear q2_0 q2_1 r2_0
    obtain⟨q4_0,q4_1⟩:=(HC _ HB.out).out
    skip
    clear hb4
    have r4_0:=Nat.lt_of_lt_of_le (show w.heap.size<W.heap.size by have:=HWs.out;omega) HB.out.size
    go_wp2_with fail
    go_ret
    exact⟨by rw[F.out];rfl,(HW.out.trans (HB.out.mono (by have:=HWs.out;omega)))⟩
  ·have F:=Lib.hid (show(R.all fun h=>hasE es h.edge)=true from by
    rw[List.all_eq_true]
    intro y hy
    exact HA.out y (by rw[List.take_of_length_le (by have:=HL.out;omega)];exact hy))
   go_wp2_with fail
   go_ret
   exact⟨by rw[F.out];rfl,(HW.out.trans (HB.out.mono (by have:=HWs.out;omega)))⟩
end Go.Proofs.Ythopjhifepijiaa
