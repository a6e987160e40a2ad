/- Lemmas on the way to the statement. -/
import Derived.Test.YthopjhifepijiaaGreatJ11
set_option linter.unusedSimpArgs false
set_option linter.unusedVariables false
namespace Go.Proofs.YthopjhifepijiaaGreat
open Go.RowKit Go.Joins
theorem placeE_at {es:List Ed} {id:Int} (h:hasE es id=true):es[placeE es id]? =some (findE es id)∧plJ es id=(placeE es id:Int):=by
 refine⟨?_,by unfold plJ;rw[if_pos h]⟩
 unfold hasE at h
 obtain⟨v,hv⟩:=Option.isSome_iff_exists.1 h
 unfold findE
 rw[hv]
 obtain⟨hp,i,hi,e,hno⟩:=List.find?_eq_some_iff_getElem.1 hv
 have hx:es[i]? =some v:=by rw[List.getElem?_eq_getElem hi,e]
 have:=idx_hit (f:=isE id) (k:=i) (fun y hy=>by
  obtain⟨j,hj⟩:=List.mem_iff_getElem?.1 hy
  rw[List.getElem?_take] at hj
  split at hj
  ·rename_i hji
   have hjl:=(List.getElem?_eq_some_iff.1 hj).1
   have:=hno j hji
   rw[(List.getElem?_eq_some_iff.1 hj).2] at this
   simpa using this
  ·cases hj) hx hp
 have e2:placeE es id=i:=this
 rw[e2,hx]
 rfl
theorem fromH_find {es:List Ed} {h:Hf} (hk:hasE es h.edge=true):fromH es h=if h.back=true then(findE es h.edge).b else(findE es h.edge).a:=by
 unfold hasE at hk
 unfold fromH findE
 rw[show edgeOf es h.edge=es.find? (isE h.edge) from rfl]
 cases e:es.find? (isE h.edge) with
 |none=>rw[e] at hk;cases hk
 |some f=>rfl
theorem Tryz.results84:Tryz.f84.results= #[.cell 2 91]:=by kernel_rfl
set_option maxRecDepth 100000 in
theorem r16twin_any (h:Hf) (w:World):Calls Tryz.prog 84 #[.agg #[.int .i64 h.edge, .bool h.back]] w fun e w'=>e= .returned (.agg #[.int .i64 (twinH h).edge, .bool (twinH h).back])∧Below w.heap.size w w':=by
 obtain⟨e,b⟩:=h
 simp only[twinH]
 cases b
 all_goals
  go_enter Tryz.func84,Tryz.ntmps84
  go_wp2_with fail
 ·refine bodyPost_ret (v:= .agg #[.int .i64 e, .bool true]) (by simp[results,Tryz.results84,go_sem]) rfl ⟨rfl, ?_⟩
  exact below_alloc (below_alloc (Below.refl _ _))
 ·refine bodyPost_ret (v:= .agg #[.int .i64 e, .bool false]) (by simp[results,Tryz.results84,go_sem]) rfl ⟨rfl, ?_⟩
  exact below_alloc (below_alloc (Below.refl _ _))
set_option maxRecDepth 100000 in
set_option maxHeartbeats 8000000 in
theorem r16from_any {w:World} {B en ec:Nat} {ea:Option Addr} {es:List Ed} (he:EsIn w B ea en es) (hB:B≤w.heap.size) (hn:en≤100000) (vs:Value) (hes: ∃a n c,vs= .slice a n c) (h:Hf) (hk:hasE es h.edge=true):
  Calls Tryz.prog 33 #[.agg #[vs, .slice ea en ec], .agg #[.int .i64 h.edge, .bool h.back]] w fun e w'=>e= .returned (.int .i64 (fromH es h))∧Below w.heap.size w w':=by
 obtain⟨va,vn,vc,rfl⟩:=hes
 obtain⟨hpl,hpi⟩:=placeE_at hk
 rw[fromH_find hk]
 have HED:=fun(W:World) (hb:Below w.heap.size w W)=>Lib.hid (r15edge_any (w:=W) (ec:=ec) (he.below (hb.mono hB)) (Nat.le_trans hB hb.size) hn (.slice va vn vc) ⟨_,_,_,rfl⟩ h.edge)
 rw[hpi] at HED
 have hkk:placeE es h.edge<en:=by rw[he.1];exact(List.getElem?_eq_some_iff.1 hpl).1
 obtain⟨eb,off,v,rfl,heb,hx,e0,e1,e2⟩:=he.at_ hkk
 rw[hpl] at hx
 injection hx with hx
 generalize findE es h.edge=f at*
 subst hx
 generalize placeE es h.edge=k at*
 have HE:=Lib.hid (show w.cell? ⟨eb,off+k*3,none⟩=some (.int .i64 f.id)∧w.cell? ⟨eb,off+k*3+1,none⟩=some (.int .i64 f.a)∧w.cell? ⟨eb,off+k*3+1+1,none⟩=some (.int .i64 f.b) from⟨e0,e1,e2⟩)
 have hew:eb<w.heap.size:=by omega
 obtain⟨hh,hbk⟩:=h
 simp only at*
 clear hpl hpi he hk e0 e1 e2
 go_enter Tryz.func33,Tryz.ntmps33
 go_wp2_with fail
 first|refine wp_name (fun W hW=> ?_)|refine calls_name (fun W hW=> ?_)
 have HW:Hid (Below w.heap.size w W):=Lib.hid (by rw[←hW];repeat (first|exact Below.refl _ _|refine below_alloc ?_))
 have HWs:Hid (W.heap.size=w.heap.size+1+1):=Lib.hid (by rw[←hW];simp)
 have HBW:Hid (W.heap.size≤W.heap.size):=Lib.hid (by have:=HWs.out;omega)
 have HC:=fun(W1:World) (hb:Below (W.heap.size) W W1)=>Lib.hid (show W1.cell? ⟨w.heap.size,0,none⟩=some (.slice va vn vc)∧W1.cell? ⟨w.heap.size,1,none⟩=some (.slice (some ⟨eb,off,none⟩) en ec)∧W1.cell? ⟨w.heap.size+1,0,none⟩=some (.int .i64 hh)∧W1.cell? ⟨w.heap.size+1,1,none⟩=some (.bool hbk) from by have hs:=HWs.out;refine⟨?_, ?_, ?_, ?_⟩<;>(refine(hb.cell (by dsimp only;omega)).trans ?_;rw[←hW];clear hW;go_simp))
 have HB:=Lib.hid (Below.refl (W.heap.size) W)
 clear hW
 have HZ:=fun(W1:World) (hb:W.heap.size≤W1.heap.size)=>Lib.hid (show w.heap.size<W1.heap.size∧w.heap.size+1<W1.heap.size from by have:=HWs.out;refine⟨?_, ?_⟩<;>omega)
 obtain⟨qx0,qx1,qx2,qx3⟩:=(HC _ HB.out).out
 obtain⟨rx0,rx1⟩:=(HZ _ HB.out.size).out
 clear qx0 qx1 qx2 qx3 rx0 rx1
 go_upto_region 1 with fail
 go_cut [5] (fun pv wx=> ∃g,pv= .pointer (some ⟨g,0,none⟩)∧wx.rowIs g 68 3 (edF f)∧W.heap.size≤g∧Below W.heap.size W wx)
 case first=>
  have HY:=fun(w':World) (t:Below W.heap.size W w')=>Lib.hid (show w'.cell? ⟨w.heap.size,0,none⟩=some (.slice va vn vc)∧w'.cell? ⟨w.heap.size,1,none⟩=some (.slice (some ⟨eb,off,none⟩) en ec)∧w'.cell? ⟨w.heap.size+1,0,none⟩=some (.int .i64 hh)∧w'.cell? ⟨eb,off+k*3,none⟩=some (.int .i64 f.id)∧w'.cell? ⟨eb,off+k*3+1,none⟩=some (.int .i64 f.a)∧w'.cell? ⟨eb,off+k*3+1+1,none⟩=some (.int .i64 f.b) from by
   have hc:=(HC _ t).out
   have hb:=HW.out.trans (t.mono HW.out.size)
   exact⟨hc.1,hc.2.1,hc.2.2.1,(hb.cell (p:=⟨eb,_,none⟩) hew).trans HE.out.1,(hb.cell (p:=⟨eb,_,none⟩) hew).trans HE.out.2.1,(hb.cell (p:=⟨eb,_,none⟩) hew).trans HE.out.2.2⟩)
  have HS0:=Lib.hid (Below.refl W.heap.size W).drew
  refine wp_region_noPanic ?_
  refine wp_region_par3 9 9 (by kernel_rfl) (by kernel_rfl) (by simp) (by omega) (by kernel_rfl) (by kernel_rfl) (fun w':World=>Below W.heap.size W w') ?_
  refine par3_move (v:= ?_) 0 (by simp only[zga,zgb,zgc];rfl) (by kernel_rfl) (by rfl) ?_ (fun _ _ _ h=>h) ?_
  rotate_left
  ·(intro w9;go_simp;try with_reducible rfl)
  simp only[Act.put,zpa,zpb,zpc]
  refine par3_read (v:= ?_) 1 (by simp only[zga,zgb,zgc];rfl) (by kernel_rfl) (by rfl) HS0.out ?_ (fun _ _ _ h=>h) ?_
  rotate_left
  ·(intro w9 hSw;obtain⟨y0,y1,y2,y3,y4,y5⟩:=(HY w9 hSw).out;clear hSw;go_simp;try with_reducible rfl)
  simp only[Act.put,zpa,zpb,zpc]
  refine par3_read (v:= ?_) 2 (by simp only[zga,zgb,zgc];rfl) (by kernel_rfl) (by rfl) HS0.out ?_ (fun _ _ _ h=>h) ?_
  rotate_left
  ·(intro w9 hSw;obtain⟨y0,y1,y2,y3,y4,y5⟩:=(HY w9 hSw).out;clear hSw;go_simp;try with_reducible rfl)
  simp only[Act.put,zpa,zpb,zpc]
  refine par3_move (v:= ?_) 3 (by simp only[zga,zgb,zgc];rfl) (by kernel_rfl) (by rfl) ?_ (fun _ _ _ h=>h) ?_
  rotate_left
  ·(intro w9;go_simp;try with_reducible rfl)
  simp only[Act.put,zpa,zpb,zpc]
  refine par3_read (v:= ?_) 4 (by simp only[zga,zgb,zgc];rfl) (by kernel_rfl) (by rfl) HS0.out ?_ (fun _ _ _ h=>h) ?_
  rotate_left
  ·(intro w9 hSw;obtain⟨y0,y1,y2,y3,y4,y5⟩:=(HY w9 hSw).out;clear hSw;go_simp;try with_reducible rfl)
  simp only[Act.put,zpa,zpb,zpc]
  refine par3_nm (fun W8 hW8=> ?_)
  rw[←hW8] at HS0
  clear hW8
  refine par3_two 5 8 (by simp only[zga,zgb,zgc];rfl) (by simp only[zga,zgb,zgc];rfl) (by kernel_rfl) (by rfl) (by rfl) ?_ ?_
  ·refine owp_call (by go_simp;constructor<;>rfl) ?_
   refine(HED _ (HW.out.trans (HS0.out.mono HW.out.size))).out.mono ?_
   rintro x W9 ⟨rfl,hb9⟩
   have HS9:=Lib.hid (below_next HS0.out HS0.out.size hb9)
   refine⟨_,rfl,fun _ _=>HS9.out, ?_⟩
   clear hb9
   simp only[Act.put,zpa,zpb,zpc]
   refine par3_move (v:= ?_) 6 (by simp only[zga,zgb,zgc];rfl) (by kernel_rfl) (by rfl) ?_ (fun _ _ _ h=>h) ?_
   rotate_left
   ·(intro w9;go_simp;try with_reducible rfl)
   simp only[Act.put,zpa,zpb,zpc]
   refine par3_read (v:= ?_) 7 (by simp only[zga,zgb,zgc];rfl) (by kernel_rfl) (by rfl) HS9.out ?_ (fun _ _ _ h=>h) ?_
   rotate_left
   ·(intro w9 hSw;obtain⟨y0,y1,y2,y3,y4,y5⟩:=(HY w9 hSw).out;clear hSw;go_simp;try with_reducible rfl)
   simp only[Act.put,zpa,zpb,zpc]
   refine par3_one 8 (by simp only[zga,zgb,zgc];rfl) (by kernel_rfl) (by rfl) ?_
   refine owp_val (v:= ?_) (w1:= ?_) ?_ ?_
   rotate_left 2
   ·(go_simp;constructor<;>rfl)
   refine⟨fun s _=>s.alloc s.size _, ?_⟩
   simp only[Act.put,zpa,zpb,zpc]
   refine par3_tail _ (by simp only[List.drop_succ_cons,List.drop_zero];rfl) (by kernel_rfl) ?_
   go_wp2_with fail
   refine NoPanic.normal ?_
   go_step
   first|go_meet|(go_step;go_meet)
   exact⟨_,rfl,World.rowIs_alloc W9 #[.int .i64 f.id, .int .i64 f.a, .int .i64 f.b] 68 (edF f) (fun i hi=>by rcases i with _|_|_|i<;>first|rfl|(simp at hi;omega)),HS9.out.size,HS9.out.alloc HS9.out.size _⟩
  ·refine owp_val (v:= ?_) (w1:= ?_) ?_ ?_
   rotate_left 2
   ·(go_simp;constructor<;>rfl)
   refine⟨fun s _=>s.alloc s.size _, ?_⟩
   simp only[Act.put,zpa,zpb,zpc]
   have HR9:=Lib.hid (World.rowIs_alloc W8 #[.int .i64 0, .int .i64 0, .int .i64 0] 68 (edF ⟨0,0,0⟩) (fun i hi=>by rcases i with _|_|_|i<;>first|rfl|(simp at hi;omega)))
   have HS9:=Lib.hid (HS0.out.alloc HS0.out.size (.cells #[.int .i64 0, .int .i64 0, .int .i64 0] 68))
   refine par3_nm (fun W9 hW9=> ?_)
   rw[←hW9] at HR9 HS9
   clear hW9
   refine par3_one 5 (by simp only[zga,zgb,zgc];rfl) (by kernel_rfl) (by rfl) ?_
   refine owp_call (by go_simp;constructor<;>rfl) ?_
   refine(HED _ (HW.out.trans (HS9.out.mono HW.out.size))).out.mono ?_
   rintro x W10 ⟨rfl,hb10⟩
   have HR10:=Lib.hid (rowIs_touch HR9.out (Touch.of_below (F:=[]) hb10) (by simp))
   have HS10:=Lib.hid (below_next HS9.out HS9.out.size hb10)
   refine⟨_,rfl,fun _ _=>HS10.out, ?_⟩
   clear hb10
   simp only[Act.put,zpa,zpb,zpc]
   refine par3_move (v:= ?_) 6 (by simp only[zga,zgb,zgc];rfl) (by kernel_rfl) (by rfl) ?_ (fun _ _ _ h=>h) ?_
   rotate_left
   ·(intro w9;go_simp;try with_reducible rfl)
   simp only[Act.put,zpa,zpb,zpc]
   refine par3_read (v:= ?_) 7 (by simp only[zga,zgb,zgc];rfl) (by kernel_rfl) (by rfl) HS10.out ?_ (fun _ _ _ h=>h) ?_
   rotate_left
   ·(intro w9 hSw;obtain⟨y0,y1,y2,y3,y4,y5⟩:=(HY w9 hSw).out;clear hSw;go_simp;try with_reducible rfl)
   simp only[Act.put,zpa,zpb,zpc]
   have f0:=World.rowIs.frozen HR10.out 0
   have f1:=World.rowIs.frozen HR10.out 1
   have f2:=World.rowIs.frozen HR10.out 2
   have u0:=World.rowIs.cell HR10.out (i:=0) (by decide)
   have u1:=World.rowIs.cell HR10.out (i:=1) (by decide)
   have u2:=World.rowIs.cell HR10.out (i:=2) (by decide)
   refine par3_tail _ (by simp only[List.drop_succ_cons,List.drop_zero];rfl) (by kernel_rfl) ?_
   go_wp2_with fail
   refine NoPanic.normal ?_
   go_step
   first|go_meet|(go_step;go_meet)
   refine⟨_,rfl,World.rowIs.congr (World.rowIs.set (World.rowIs.set (World.rowIs.set HR10.out 0 _) 1 _) 2 _) (fun i hi=> ?_),HS0.out.size,((HS10.out.setCell HS0.out.size _).setCell HS0.out.size _).setCell HS0.out.size _⟩
   rcases i with _|_|_|i<;>first|rfl|omega
 case rest=>
 obtain⟨g,rfl,hrow,hg,hbx⟩:=hcut
 have HB:=Lib.hid hbx
 have u1:wc.cell? ⟨g,1,none⟩=some (.int .i64 f.a):=World.rowIs.cell hrow (i:=1) (by decide)
 have u2:wc.cell? ⟨g,2,none⟩=some (.int .i64 f.b):=World.rowIs.cell hrow (i:=2) (by decide)
 clear hbx hrow
 obtain⟨qx0,qx1,qx2,qx3⟩:=(HC _ HB.out).out
 obtain⟨rx0,rx1⟩:=(HZ _ HB.out.size).out
 cases hbk
 ·go_wp2_with fail
  go_ret
  exact⟨by rfl,bfn HW HB⟩
 ·go_wp2_with fail
  go_ret
  exact⟨by rfl,bfn HW HB⟩
end Go.Proofs.YthopjhifepijiaaGreat
namespace Go.Proofs.YthopjhifepijiaaGreat
open Go.RowKit Go.Joins
theorem plJ_cases (es:List Ed) (id:Int):(hasE es id=true∧ ¬plJ es id<0)∨(hasE es id=false∧plJ es id<0):=by
 unfold plJ
 cases hasE es id
 ·exact .inr ⟨rfl,by simp⟩
 ·exact .inl ⟨rfl,by simp⟩
theorem HsIn.row {w:World} {B:Nat} {a:Option Addr} {n:Nat} {R:List Hf} (h:HsIn w B a n R) (hn:0<n): ∃b off,a=some ⟨b,off,none⟩∧b<B∧ ∀w',Below B w w'→ ∀i x,R[i]? =some x→
  w'.cell? ⟨b,off+i*2,none⟩=some (.int .i64 x.edge)∧w'.cell? ⟨b,off+i*2+1,none⟩=some (.bool x.back):=by
 obtain⟨h1,h2|⟨b,off,ha,hlt,hc⟩⟩:=h
 ·omega
 ·exact⟨b,off,ha,hlt,fun w' hb i v hv=>⟨(hb.cell (p:=⟨b,_,none⟩) hlt).trans (hc i v hv).1,(hb.cell (p:=⟨b,_,none⟩) hlt).trans (hc i v hv).2⟩⟩
set_option maxRecDepth 100000 in
set_option maxHeartbeats 4000000 in
theorem r17known_any {w:World} {B en ec n c:Nat} {ea a:Option Addr} {es:List Ed} {R:List Hf} (he:EsIn w B ea en es) (hr:HsIn w B a n R) (hB:B≤w.heap.size) (hm:en≤100000) (hl:n≤100000) (vs:Value) (hes: ∃a n c,vs= .slice a n c):
  Calls Tryz.prog 63 #[.agg #[vs, .slice ea en ec], .slice a n c] w fun e w'=>e= .returned (.bool (R.all fun h=>hasE es h.edge))∧Below w.heap.size w w':=by
 obtain⟨va,vn,vc,rfl⟩:=hes
 have HED:=fun(W:World) (hb:Below w.heap.size w W) (id:Int)=>Lib.hid (r15edge_any (w:=W) (ec:=ec) (he.below (hb.mono hB)) (Nat.le_trans hB hb.size) hm (.slice va vn vc) ⟨_,_,_,rfl⟩ id)
 have HRS:=Lib.hid hr
 have HL:=Lib.hid hr.1
 clear he hr
 go_enter Tryz.func63,Tryz.ntmps63
 go_wp2_with fail
 first|refine wp_name (fun W hW=> ?_)|refine calls_name (fun W hW=> ?_)
 have HW:Hid (Below w.heap.size w W):=Lib.hid (by rw[←hW];repeat (first|exact Below.refl _ _|refine below_alloc ?_))
 have HWs:Hid (W.heap.size=w.heap.size+1):=Lib.hid (by rw[←hW];simp)
 have HBW:Hid (W.heap.size≤W.heap.size):=Lib.hid (by have:=HWs.out;omega)
 have HC:=fun(W1:World) (hb:Below (W.heap.size) W W1)=>Lib.hid (show W1.cell? ⟨w.heap.size,0,none⟩=some (.slice va vn vc)∧W1.cell? ⟨w.heap.size,1,none⟩=some (.slice ea en ec) from by have hs:=HWs.out;refine⟨?_, ?_⟩<;>(refine(hb.cell (by dsimp only;omega)).trans ?_;rw[←hW];clear hW;go_simp))
 have HB:=Lib.hid (Below.refl (W.heap.size) W)
 clear hW
 have HZ:=fun(W1:World) (hb:W.heap.size≤W1.heap.size)=>Lib.hid (show w.heap.size<W1.heap.size from by have:=HWs.out;omega)
 obtain⟨qx0,qx1⟩:=(HC _ HB.out).out
 have rx0:=(HZ _ HB.out.size).out
 clear qx0 qx1 rx0
 go_loopw [5] (fun v wr=> ∃k:Nat,k≤n∧v= .int .i64 k∧(∀y∈R.take k,hasE es y.edge=true)∧Below W.heap.size W wr) (fun v _=>n - (intOf v).toNat)
 case atStart=>exact⟨0,Nat.zero_le _,rfl,fun y hy=>by simp at hy,HB.out⟩
 case round=>
  clear HB
  obtain⟨k,hk,rfl,hall,hb⟩:=hrel
  have HB:=Lib.hid hb
  have HA:=Lib.hid hall
  clear hb hall
  obtain⟨qx0,qx1⟩:=(HC _ HB.out).out
  have rx0:=(HZ _ HB.out.size).out
  by_cases hlt:k<n
  ·obtain⟨rb,roff,rfl,hrb,hcell⟩:=HRS.out.row (by omega)
   have HCR:=fun(W1:World) (hb:Below w.heap.size w W1) (i:Nat) (u:Hf) (hi:R[i]? =some u)=>Lib.hid (hcell W1 (hb.mono hB) i u hi)
   clear hcell
   obtain⟨v,hv⟩: ∃v,R[k]? =some v:=⟨_,List.getElem?_eq_getElem (by have:=HL.out;omega)⟩
   have HVK:=Lib.hid hv
   clear hv
   have hxa:=plJ_cases es v.edge
   have HEX:=fun(W1:World) (hb:Below w.heap.size w W1)=>HED W1 hb v.edge
   generalize plJ es v.edge=z at hxa HEX
   rcases hxa with ⟨h1,h2⟩|⟨h1,h2⟩
   ·have HK:=Lib.hid h1
    clear h1
    go_wp2_with fail
    refine wp_name (fun c3 hc3=> ?_)
    have HB:=bnm HB HBW hc3
    have YB:=fun(x:Later c3)=>HW.out.trans ((below_next HB.out (Nat.le_trans HBW.out HB.out.size) x.2).mono HW.out.size);have HEL:=fun(x:Later c3)=>HEX x.1 (YB x);have y9:=fun(x:Later c3)=>(HCR x.1 (YB x) k v HVK.out).out.1;clear YB
    clear hc3
    have xx:=fun(x:Later c3)=>(HC _ (bnl HB HBW x.2)).out
    simp only[forall_and] at xx
    obtain⟨xx0,xx1⟩:=xx
    refine wp_region_later (by kernel_rfl) (by kernel_rfl) ?_
    repeat (first|go_big_quiet_step (((go_at_call 47;with_reducible refine Later.call (HEL _).out)))|quiet_step (((go_at_call 47;with_reducible refine Later.call (HEL _).out))))
    refine wpQuiet_nil ?_
    intro w3 hw3
    have hb3:=later_below hw3
    clear hw3
    have HB:=Lib.hid (bnl HB HBW hb3)
    clear xx0 xx1
    clear qx0 qx1 rx0
    obtain⟨qx0,qx1⟩:=(HC _ HB.out).out
    skip
    clear hb3
    have rx0:=(HZ _ HB.out.size).out
    go_wp2_with fail
    go_roundw
    case rel=>
     refine⟨k+1,by omega,by go_num,fun y hy=> ?_,HB.out⟩
     rw[take_snoc' HVK.out] at hy
     rcases List.mem_append.1 hy with hy|hy
     ·exact HA.out y hy
     ·simp at hy;subst hy;exact HK.out
    case measure=>simp[intOf];omega
   ·have F:=Lib.hid (show(R.all fun h=>hasE es h.edge)=false from by
     rw[List.all_eq_false]
     exact⟨v,List.mem_of_getElem? HVK.out,by rw[h1];decide⟩)
    clear h1
    go_wp2_with fail
    refine wp_name (fun c4 hc4=> ?_)
    have HB:=bnm HB HBW hc4
    have YB:=fun(x:Later c4)=>HW.out.trans ((below_next HB.out (Nat.le_trans HBW.out HB.out.size) x.2).mono HW.out.size);have HEL:=fun(x:Later c4)=>HEX x.1 (YB x);have y9:=fun(x:Later c4)=>(HCR x.1 (YB x) k v HVK.out).out.1;clear YB
    clear hc4
    have xx:=fun(x:Later c4)=>(HC _ (bnl HB HBW x.2)).out
    simp only[forall_and] at xx
    obtain⟨xx0,xx1⟩:=xx
    refine wp_region_later (by kernel_rfl) (by kernel_rfl) ?_
    repeat (first|go_big_quiet_step (((go_at_call 47;with_reducible refine Later.call (HEL _).out)))|quiet_step (((go_at_call 47;with_reducible refine Later.call (HEL _).out))))
    refine wpQuiet_nil ?_
    intro w4 hw4
    have hb4:=later_below hw4
    clear hw4
    have HB:=Lib.hid (bnl HB HBW hb4)
    clear xx0 xx1
    clear qx0 qx1 rx0
    obtain⟨qx0,qx1⟩:=(HC _ HB.out).out
    skip
    clear hb4
    have rx0:=(HZ _ HB.out.size).out
    go_wp2_with fail
    go_ret
    exact⟨by rw[F.out];rfl,bfn HW HB⟩
  ·have F:=Lib.hid (show(R.all fun h=>hasE es h.edge)=true from by
    rw[List.all_eq_true]
    intro y hy
    exact HA.out y (by rw[List.take_of_length_le (by have:=HL.out;omega)];exact hy))
   go_wp2_with fail
   go_ret
   exact⟨by rw[F.out];rfl,bfn HW HB⟩
end Go.Proofs.YthopjhifepijiaaGreat
namespace Go.Proofs.YthopjhifepijiaaGreat
open Go.RowKit
section
variable {P:Program} {md:Region.Mode} {ops:Array Oper} {Q:Exit→Act→World→Prop} {S:World→Prop} {B:Nat→Bool}
def allWait8 (md:Region.Mode) (ops:Array Oper) (B:Nat→Bool) (i:Nat):Bool:=
 (List.range ops.size).all fun j=>B j||reachB md ops i 6 j
theorem allWait8_spec {n i j:Nat} {oj:Oper} {listed:Array Bool} (inv:HeadInv md ops n listed) (h:allWait8 md ops B i=true) (hj:ops[j]? =some oj) (hl: ∀e∈oj.after,Region.binds md e=true→listed.getD e.on false=true) (hi:listed.getD i false=false):B j=true:=by
 have hlt:j<ops.size:=(Array.getElem?_eq_some_iff.1 hj).1
 have h:=List.all_eq_true.1 h j (List.mem_range.2 hlt)
 simp only[Bool.or_eq_true] at h
 rcases h with h|h
 ·exact h
 ·rw[reachB_listed inv 6 j h hj hl] at hi
  cases hi
theorem wpAny3_first8 {m i:Nat} {oi:Oper} {v:Value} (c:Bool) (T:TailOk md ops m) (hi:ops[i]? =some oi) (him:i<m) (hc:c=true→allWait8 md ops B i=true) (hQ: ∀c a w,Q (.panic c) (a.put oi.dst v) w→Q (.panic c) a w) (f:Nat):
  ∀(listed:Array Bool) (a:Act) (w:World),HeadInv md ops m listed→Apart md ops i oi listed→i∈Region.ready md ops listed→YieldsIf P ops (fun w=>c=true→S w) oi v a→(c=true→S w)→
   wpAny3 P md ops Q S B f (listed.setIfInBounds i true) (a.put oi.dst v) w→wpAny3 P md ops Q S B (f+1) listed a w:=by
 induction f with
 |zero=>
  intro listed a w inv hap hr hy hS H
  refine⟨fun h=>absurd hr (by rw[h];simp),fun j hj=> ?_⟩
  rcases Decidable.em (j=i) with rfl|hne
  ·exact hy.wpOp hi hS ⟨fun h _=>h,H⟩
  ·have:=ready_mono hj hne
   rw[H.1] at this
   cases this
 |succ f ih=>
  intro listed a w inv hap hr hy hS H
  refine⟨fun h=>absurd hr (by rw[h];simp),fun j hj=> ?_⟩
  have hjm:=T.head inv him hr hj
  rcases Decidable.em (j=i) with rfl|hne
  ·exact hy.wpOp hi hS ⟨fun h _=>h,H⟩
  ·have h1:=H.2 j (ready_mono hj hne)
   obtain⟨hjun,oj,hoj,hall⟩:=mem_ready.1 hj
   have hw: ∀e∈oj.after,Region.binds md e=true→e.on≠i:=by
    intro e he hb h
    have:=hall e he hb
    rw[h,getD_both (mem_ready.1 hr).1] at this
    cases this
   have h2:=wpOp_putIf hoj (hap j oj hoj hne hjun hw) (fun cs b=>T.sel i oi cs b hi) (fun cs b=>T.sel j oj cs b hoj) hQ hy h1
   refine wpOp_mono (fun a' w' h3=>⟨h3.2.1,ih _ a' w' (inv.set hj hjm) (hap.set hjun) (ready_mono hr (Ne.symm hne)) h3.1 (fun e=>h3.2.1 (hS e) (allWait8_spec inv (hc e) hoj hall (getD_both (mem_ready.1 hr).1))) ?_⟩) h2
   rw[Array.setIfInBounds_comm _ _ hne]
   exact h3.2.2
end
section
variable {P:Program} {ops:Array Oper} {Q:Exit→Act→World→Prop} {S:World→Prop} {n b f:Nat} {listed:Array Bool} {a:Act} {w w1:World}
theorem par3_read8 {o:Oper} {v:Value} (i:Nat) (hi:ops[i]? =some o) (hB:(decide (i<n)&&(Region.ready .any ops listed).contains i&&Region.free .any ops listed i&&allWait8 .any ops (fun j=>decide (j<b)) i)=true)
  (hw:Region.wanted o (yielded ops a.tmps)=true) (hS:S w) (hy: ∀w,S w→(execOp a.eval o).run P w= .ok (.value v) w) (hQ: ∀c a w,Q (.panic c) (a.put o.dst v) w→Q (.panic c) a w)
  (h:wpPar3 P ops Q S n b f (listed.setIfInBounds i true) (a.put o.dst v) w):wpPar3 P ops Q S n b (f+1) listed a w:=fun T inv hb=>by
 simp only[Bool.and_eq_true,decide_eq_true_eq] at hB
 have hr:i∈Region.ready .any ops listed:=by simpa using hB.1.1.2
 exact wpAny3_first8 true T hi hB.1.1.1 (fun _=>hB.2) hQ f listed a w inv (Region.free_spec hi hB.1.2) hr (.inl ⟨hw,fun w h=>hy w (h rfl)⟩) (fun _=>hS) (h T (inv.set hr hB.1.1.1) hb)
end
end Go.Proofs.YthopjhifepijiaaGreat
namespace Go.Proofs.YthopjhifepijiaaGreat
open Go.RowKit Go.Joins
structure EdIn (vs:List Vx) (e:Ed):Prop where
 va:hasV vs e.a=true
 vb:hasV vs e.b=true
 ia:inB (findV vs e.a).at_=true
 ib:inB (findV vs e.b).at_=true
 ne:(findV vs e.a).at_≠(findV vs e.b).at_
set_option maxRecDepth 100000 in
set_option maxHeartbeats 8000000 in
theorem r15meets_any {w:World} {B vn vc en ec:Nat} {va ea:Option Addr} {vs:List Vx} {es:List Ed} (hv:VsIn w B va vn vs) (he:EsIn w B ea en es) (hB:B≤w.heap.size) (hn:vn≤100000) (hm:en≤100000) (a b:Pt) (ha:inB a=true) (hb:inB b=true) (hab:a≠b) {n:Nat} (hnn:n≤en) (hok: ∀i e,i<n→es[i]? =some e→EdIn vs e):
  Calls Tryz.prog 27 #[.agg #[.slice va vn vc, .slice ea en ec], .agg #[.int .i64 a.x, .int .i64 a.y], .agg #[.int .i64 b.x, .int .i64 b.y], .int .i64 n] w fun e w'=>e= .returned (.bool ((es.take n).any fun f=>meetB a b (findV vs f.a).at_ (findV vs f.b).at_))∧Below w.heap.size w w':=by
 have HV:=fun(W:World) (hb:Below w.heap.size w W)=>Lib.hid (he.below (hb.mono hB))
 have HL:=Lib.hid he.1
 have HAT:=fun(W:World) (hb:Below w.heap.size w W) (id:Int) (h:hasV vs id=true)=>Lib.hid (r15at_any (w:=W) (vc:=vc) (hv.below (hb.mono hB)) (Nat.le_trans hB hb.size) hn (.slice ea en ec) ⟨_,_,_,rfl⟩ id h)
 have HMT:=fun(e:Ed) (h:EdIn vs e) (W:World)=>Lib.hid (r5meet_any a b (findV vs e.a).at_ (findV vs e.b).at_ W ha hb h.ia h.ib hab h.ne)
 have HOK:=Lib.hid hok
 clear hv he hok ha hb hab
 go_enter Tryz.func27,Tryz.ntmps27
 go_wp2_with fail
 first|refine wp_name (fun W hW=> ?_)|refine calls_name (fun W hW=> ?_)
 have HW:Hid (Below w.heap.size w W):=Lib.hid (by rw[←hW];repeat (first|exact Below.refl _ _|refine below_alloc ?_))
 have HWs:Hid (W.heap.size=w.heap.size+1+1+1):=Lib.hid (by rw[←hW];simp)
 have HBW:Hid (W.heap.size≤W.heap.size):=Lib.hid (by have:=HWs.out;omega)
 have HC:=fun(W1:World) (hb:Below (W.heap.size) W W1)=>Lib.hid (show W1.cell? ⟨w.heap.size,0,none⟩=some (.slice va vn vc)∧W1.cell? ⟨w.heap.size,1,none⟩=some (.slice ea en ec)∧W1.cell? ⟨w.heap.size+1,0,none⟩=some (.int .i64 a.x)∧W1.cell? ⟨w.heap.size+1,1,none⟩=some (.int .i64 a.y)∧W1.cell? ⟨w.heap.size+1+1,0,none⟩=some (.int .i64 b.x)∧W1.cell? ⟨w.heap.size+1+1,1,none⟩=some (.int .i64 b.y) from by have hs:=HWs.out;refine⟨?_, ?_, ?_, ?_, ?_, ?_⟩<;>(refine(hb.cell (by dsimp only;omega)).trans ?_;rw[←hW];clear hW;go_simp))
 have HB:=Lib.hid (Below.refl (W.heap.size) W)
 clear hW
 have HZ:=fun(W1:World) (hb:W.heap.size≤W1.heap.size)=>Lib.hid (show w.heap.size<W1.heap.size∧w.heap.size+1<W1.heap.size∧w.heap.size+1+1<W1.heap.size from by have:=HWs.out;refine⟨?_, ?_, ?_⟩<;>omega)
 obtain⟨qx0,qx1,qx2,qx3,qx4,qx5⟩:=(HC _ HB.out).out
 obtain⟨rx0,rx1,rx2⟩:=(HZ _ HB.out.size).out
 clear qx0 qx1 qx2 qx3 qx4 qx5 rx0 rx1 rx2
 go_loopw [9] (fun v wr=> ∃k:Nat,k≤n∧v= .int .i64 k∧(∀y∈es.take k,meetB a b (findV vs y.a).at_ (findV vs y.b).at_=false)∧Below W.heap.size W wr) (fun v _=>n - (intOf v).toNat)
 case atStart=>exact⟨0,Nat.zero_le _,rfl,fun y hy=>by simp at hy,HB.out⟩
 case round=>
  clear HB
  obtain⟨k,hk,rfl,hall,hb⟩:=hrel
  have HB:=Lib.hid hb
  have HA:=Lib.hid hall
  clear hb hall
  obtain⟨qx0,qx1,qx2,qx3,qx4,qx5⟩:=(HC _ HB.out).out
  obtain⟨rx0,rx1,rx2⟩:=(HZ _ HB.out.size).out
  have HX:=Lib.hid (HW.out.trans (HB.out.mono HW.out.size))
  by_cases hlt:k<n
  ·obtain⟨eb,off,v,rfl,hvb,hv,e0,e1,e2⟩:=(HV _ HX.out).out.at_ (k:=k) (by omega)
   have HVK:=Lib.hid hv
   have hvw:eb<wr.heap.size:=by have:=HX.out.size;omega
   have hed:=HOK.out k v hlt hv
   have HA1:=fun(W1:World) (hb:Below wr.heap.size wr W1)=>HAT W1 (below_step hb HX.out) v.a hed.va
   have HA2:=fun(W1:World) (hb:Below wr.heap.size wr W1)=>HAT W1 (below_step hb HX.out) v.b hed.vb
   have HM2:=HMT v hed
   have HE:=Lib.hid (show wr.cell? ⟨eb,off+k*3+1,none⟩=some (.int .i64 v.a)∧wr.cell? ⟨eb,off+k*3+2,none⟩=some (.int .i64 v.b) from⟨e1,e2⟩)
   obtain⟨M,hM⟩: ∃M,M=meetB a b (findV vs v.a).at_ (findV vs v.b).at_:=⟨_,rfl⟩
   have HEQ:=Lib.hid hM.symm
   rw[←hM] at HM2
   clear hM
   generalize (findV vs v.a).at_=A at HA1 HM2
   generalize (findV vs v.b).at_=D at HA2 HM2
   clear hv e0 e1 e2 hed
   have hken:k<en:=by omega
   go_upto_region 4 with fail
   clear qx0 qx1 qx2 qx3 qx4 qx5 rx0 rx1 rx2
   have HY:=fun(w':World) (t:Below wr.heap.size wr w')=>Lib.hid (show w'.cell? ⟨w.heap.size,0,none⟩=some (.slice va vn vc)∧w'.cell? ⟨w.heap.size,1,none⟩=some (.slice (some ⟨eb,off,none⟩) en ec)∧w'.cell? ⟨eb,off+k*3+1,none⟩=some (.int .i64 v.a)∧w'.cell? ⟨eb,off+k*3+2,none⟩=some (.int .i64 v.b)∧w'.cell? ⟨w.heap.size+1,0,none⟩=some (.int .i64 a.x)∧w'.cell? ⟨w.heap.size+1,1,none⟩=some (.int .i64 a.y)∧w'.cell? ⟨w.heap.size+1+1,0,none⟩=some (.int .i64 b.x)∧w'.cell? ⟨w.heap.size+1+1,1,none⟩=some (.int .i64 b.y) from by
    obtain⟨d0,d1,d2,d3,d4,d5⟩:=(HC _ (HB.out.trans (t.mono HB.out.size))).out
    exact⟨d0,d1,(t.cell (p:=⟨eb,_,none⟩) hvw).trans HE.out.1,(t.cell (p:=⟨eb,_,none⟩) hvw).trans HE.out.2,d2,d3,d4,d5⟩)
   have HS0:=Lib.hid (Below.refl wr.heap.size wr).drew
   refine wp_region_noPanic ?_
   refine wp_region_par3 18 18 (by kernel_rfl) (by kernel_rfl) (by simp) (by omega) (by kernel_rfl) (by kernel_rfl) (fun w':World=>Below wr.heap.size wr w') ?_
   refine par3_read8 (v:= ?_) 0 (by simp only[zga,zgb,zgc];rfl) (by kernel_rfl) (by rfl) HS0.out ?_ (fun _ _ _ h=>h) ?_
   rotate_left
   ·(intro w9 hSw;obtain⟨y0,y1,y2,y3,y4,y5,y6,y7⟩:=(HY w9 hSw).out;clear hSw;go_simp;try with_reducible rfl)
   simp only[Act.put,zpa,zpb,zpc]
   refine par3_read8 (v:= ?_) 1 (by simp only[zga,zgb,zgc];rfl) (by kernel_rfl) (by rfl) HS0.out ?_ (fun _ _ _ h=>h) ?_
   rotate_left
   ·(intro w9 hSw;obtain⟨y0,y1,y2,y3,y4,y5,y6,y7⟩:=(HY w9 hSw).out;clear hSw;go_simp;try with_reducible rfl)
   simp only[Act.put,zpa,zpb,zpc]
   refine par3_read8 (v:= ?_) 2 (by simp only[zga,zgb,zgc];rfl) (by kernel_rfl) (by rfl) HS0.out ?_ (fun _ _ _ h=>h) ?_
   rotate_left
   ·(intro w9 hSw;obtain⟨y0,y1,y2,y3,y4,y5,y6,y7⟩:=(HY w9 hSw).out;clear hSw;go_simp;try with_reducible rfl)
   simp only[Act.put,zpa,zpb,zpc]
   refine par3_move (v:= ?_) 3 (by simp only[zga,zgb,zgc];rfl) (by kernel_rfl) (by rfl) ?_ (fun _ _ _ h=>h) ?_
   rotate_left
   ·(intro w9;go_simp;try with_reducible rfl)
   simp only[Act.put,zpa,zpb,zpc]
   refine par3_read8 (v:= ?_) 4 (by simp only[zga,zgb,zgc];rfl) (by kernel_rfl) (by rfl) HS0.out ?_ (fun _ _ _ h=>h) ?_
   rotate_left
   ·(intro w9 hSw;obtain⟨y0,y1,y2,y3,y4,y5,y6,y7⟩:=(HY w9 hSw).out;clear hSw;go_simp;try with_reducible rfl)
   simp only[Act.put,zpa,zpb,zpc]
   refine par3_move (v:= ?_) 5 (by simp only[zga,zgb,zgc];rfl) (by kernel_rfl) (by rfl) ?_ (fun _ _ _ h=>h) ?_
   rotate_left
   ·(intro w9;go_simp;try with_reducible rfl)
   simp only[Act.put,zpa,zpb,zpc]
   refine par3_move (v:= ?_) 6 (by simp only[zga,zgb,zgc];rfl) (by kernel_rfl) (by rfl) ?_ (fun _ _ _ h=>h) ?_
   rotate_left
   ·(intro w9;go_simp;try with_reducible rfl)
   simp only[Act.put,zpa,zpb,zpc]
   refine par3_move (v:= ?_) 7 (by simp only[zga,zgb,zgc];rfl) (by kernel_rfl) (by rfl) ?_ (fun _ _ _ h=>h) ?_
   rotate_left
   ·(intro w9;go_simp;try with_reducible rfl)
   simp only[Act.put,zpa,zpb,zpc]
   refine par3_read8 (v:= ?_) 8 (by simp only[zga,zgb,zgc];rfl) (by kernel_rfl) (by rfl) HS0.out ?_ (fun _ _ _ h=>h) ?_
   rotate_left
   ·(intro w9 hSw;obtain⟨y0,y1,y2,y3,y4,y5,y6,y7⟩:=(HY w9 hSw).out;clear hSw;go_simp;try with_reducible rfl)
   simp only[Act.put,zpa,zpb,zpc]
   refine par3_read8 (v:= ?_) 10 (by simp only[zga,zgb,zgc];rfl) (by kernel_rfl) (by rfl) HS0.out ?_ (fun _ _ _ h=>h) ?_
   rotate_left
   ·(intro w9 hSw;obtain⟨y0,y1,y2,y3,y4,y5,y6,y7⟩:=(HY w9 hSw).out;clear hSw;go_simp;try with_reducible rfl)
   simp only[Act.put,zpa,zpb,zpc]
   refine par3_move (v:= ?_) 11 (by simp only[zga,zgb,zgc];rfl) (by kernel_rfl) (by rfl) ?_ (fun _ _ _ h=>h) ?_
   rotate_left
   ·(intro w9;go_simp;try with_reducible rfl)
   simp only[Act.put,zpa,zpb,zpc]
   refine par3_read8 (v:= ?_) 12 (by simp only[zga,zgb,zgc];rfl) (by kernel_rfl) (by rfl) HS0.out ?_ (fun _ _ _ h=>h) ?_
   rotate_left
   ·(intro w9 hSw;obtain⟨y0,y1,y2,y3,y4,y5,y6,y7⟩:=(HY w9 hSw).out;clear hSw;go_simp;try with_reducible rfl)
   simp only[Act.put,zpa,zpb,zpc]
   refine par3_move (v:= ?_) 13 (by simp only[zga,zgb,zgc];rfl) (by kernel_rfl) (by rfl) ?_ (fun _ _ _ h=>h) ?_
   rotate_left
   ·(intro w9;go_simp;try with_reducible rfl)
   simp only[Act.put,zpa,zpb,zpc]
   refine par3_move (v:= ?_) 14 (by simp only[zga,zgb,zgc];rfl) (by kernel_rfl) (by rfl) ?_ (fun _ _ _ h=>h) ?_
   rotate_left
   ·(intro w9;go_simp;try with_reducible rfl)
   simp only[Act.put,zpa,zpb,zpc]
   refine par3_move (v:= ?_) 15 (by simp only[zga,zgb,zgc];rfl) (by kernel_rfl) (by rfl) ?_ (fun _ _ _ h=>h) ?_
   rotate_left
   ·(intro w9;go_simp;try with_reducible rfl)
   simp only[Act.put,zpa,zpb,zpc]
   refine par3_read8 (v:= ?_) 16 (by simp only[zga,zgb,zgc];rfl) (by kernel_rfl) (by rfl) HS0.out ?_ (fun _ _ _ h=>h) ?_
   rotate_left
   ·(intro w9 hSw;obtain⟨y0,y1,y2,y3,y4,y5,y6,y7⟩:=(HY w9 hSw).out;clear hSw;go_simp;try with_reducible rfl)
   simp only[Act.put,zpa,zpb,zpc]
   refine par3_nm (fun W8 hW8=> ?_)
   rw[←hW8] at HS0
   clear hW8
   refine par3_one 9 (by simp only[zga,zgb,zgc];rfl) (by kernel_rfl) (by rfl) ?_
   refine owp_call (by go_simp;constructor<;>rfl) ?_
   refine(HA1 _ HS0.out).out.mono ?_
   rintro x w8 ⟨rfl,hb8⟩
   have HT8:=Lib.hid (below_next HS0.out HS0.out.size hb8)
   refine⟨_,rfl,fun s _=>HT8.out, ?_⟩
   clear hb8
   simp only[Act.put,zpa,zpb,zpc]
   refine par3_one 17 (by simp only[zga,zgb,zgc];rfl) (by kernel_rfl) (by rfl) ?_
   refine owp_call (by go_simp;constructor<;>rfl) ?_
   refine(HA2 _ HT8.out).out.mono ?_
   rintro x w9 ⟨rfl,hb9⟩
   have HT9:=Lib.hid (below_next HT8.out HT8.out.size hb9)
   refine⟨_,rfl,fun s _=>HT9.out, ?_⟩
   clear hb9
   simp only[Act.put,zpa,zpb,zpc]
   refine par3_tail _ (by simp only[List.drop_succ_cons,List.drop_zero];rfl) (by kernel_rfl) ?_
   go_wp2_with fail
   refine(HM2 _).out.mono ?_
   rintro x w10 ⟨rfl,hb10⟩
   have HT10:=Lib.hid (below_next HT9.out HT9.out.size hb10)
   clear hb10
   have HB9:=Lib.hid (HB.out.trans (HT10.out.mono HB.out.size))
   cases M
   ·go_wp2_with fail
    refine NoPanic.normal ?_
    go_wp2_with fail
    go_roundw
    case rel=>
     refine⟨k+1,by omega,by go_num,fun y hy=> ?_,HB9.out⟩
     rw[take_snoc' HVK.out] at hy
     rcases List.mem_append.1 hy with hy|hy
     ·exact HA.out y hy
     ·simp at hy;subst hy;exact HEQ.out
    case measure=>simp[intOf];omega
   ·have F:=Lib.hid (show((es.take n).any fun f=>meetB a b (findV vs f.a).at_ (findV vs f.b).at_)=true from List.any_eq_true.2 ⟨v,List.mem_of_getElem? (i:=k) (by rw[List.getElem?_take,if_pos hlt];exact HVK.out),HEQ.out⟩)
    go_wp2_with fail
    refine NoPanic.normal ?_
    go_wp2_with fail
    go_ret
    exact⟨by rw[F.out];rfl,HW.out.trans (HB9.out.mono HW.out.size)⟩
  ·obtain rfl:k=n:=by omega
   have F:=Lib.hid (show((es.take k).any fun f=>meetB a b (findV vs f.a).at_ (findV vs f.b).at_)=false from by
    rw[List.any_eq_false]
    intro y hy
    rw[HA.out y hy]
    decide)
   go_wp2_with fail
   go_ret
   exact⟨by rw[F.out];rfl,bfn HW HB⟩
end Go.Proofs.YthopjhifepijiaaGreat
namespace Go.Proofs.YthopjhifepijiaaGreat
def badV (vs:List Vx) (k:Nat) (v:Vx):Bool:=(decide (v.id<1)||(decide (0<k)&&decide (v.id≤pid vs k)))|| !inB v.at_
def badE (vs:List Vx) (es:List Ed) (k:Nat) (e:Ed):Bool:=(((decide (e.id<1)||(decide (0<k)&&decide (e.id≤eid es k)))||decide (e.a=e.b))|| !hasV vs e.a)|| !hasV vs e.b
def badW (vs:List Vx) (es:List Ed) (k:Nat) (e:Ed):Bool:=((es.take k).any (linkB e.a e.b)||vs.any fun v=>onB v.at_ (findV vs e.a).at_ (findV vs e.b).at_)||(es.take k).any fun f=>meetB (findV vs e.a).at_ (findV vs e.b).at_ (findV vs f.a).at_ (findV vs f.b).at_
theorem hasV_iff {vs:List Vx} {id:Int}:hasV vs id=true↔ ∃q,ptOf vs id=some q:=by
 unfold hasV ptOf isV
 cases h:vs.find? (fun v=>v.id==id) with
 |none=>simp
 |some v=>simp
theorem findV_ptOf {vs:List Vx} {id:Int} {q:Pt} (h:ptOf vs id=some q):(findV vs id).at_=q:=by
 unfold ptOf at h
 unfold findV isV
 cases hx:vs.find? (fun v=>v.id==id) with
 |none=>rw[hx] at h;cases h
 |some v=>rw[hx] at h;simpa using h
theorem findV_ptZ (vs:List Vx) (id:Int):(findV vs id).at_=ptZ vs id:=by
 unfold findV ptZ ptOf isV
 cases hx:vs.find? (fun v=>v.id==id) with
 |none=>rfl
 |some v=>rfl
theorem link_ends {a b:Int} {e f:Ed} (ha:e.a=a) (hb:e.b=b):linkB a b f=true↔ends f=ends e:=by
 subst ha hb
 unfold linkB ends
 simp only[Bool.or_eq_true,Bool.and_eq_true,decide_eq_true_eq,Prod.mk.injEq]
 omega
section
variable {p:PL}
theorem pid_nn {vs:List Vx} {k:Nat} (h: ∀i v,i<k→vs[i]? =some v→VOk vs i v) (hk:k≤vs.length):0≤pid vs k:=by
 induction k with
 |zero=>exact Int.le_refl _
 |succ k ih=>
  have hx:=List.getElem?_eq_getElem (l:=vs) (i:=k) (by omega)
  have h1:=(h k _ (by omega) hx).rise
  have h2:=ih (fun i v hi hv=>h i v (by omega) hv) (by omega)
  show 0≤((vs[k]?).map (·.id)).getD 0
  rw[hx]
  show 0≤(vs[k]).id
  omega
theorem eid_nn {vs:List Vx} {es:List Ed} {k:Nat} (h: ∀i e,i<k→es[i]? =some e→ ∃A B,EOk vs es i e A B) (hk:k≤es.length):0≤eid es k:=by
 induction k with
 |zero=>exact Int.le_refl _
 |succ k ih=>
  have hx:=List.getElem?_eq_getElem (l:=es) (i:=k) (by omega)
  obtain⟨A,B,h0⟩:=h k _ (by omega) hx
  have h1:=h0.rise
  have h2:=ih (fun i v hi hv=>h i v (by omega) hv) (by omega)
  show 0≤((es[k]?).map (·.id)).getD 0
  rw[hx]
  show 0≤(es[k]).id
  omega
theorem badV_no {k:Nat} {v:Vx} (hv:p.vs[k]? =some v) (h:badV p.vs k v=true):rightR p=false:=by
 rw[Bool.eq_false_iff,ne_eq,rightR_iff]
 intro r
 have h1:=r.v k v hv
 have h2:=pid_nn (vs:=p.vs) (k:=k) (fun i v _ hv=>r.v i v hv) (Nat.le_of_lt (List.getElem?_eq_some_iff.1 hv).1)
 have h3:=h1.rise
 unfold badV at h
 rw[h1.inr] at h
 simp only[Bool.not_true,Bool.or_false,Bool.or_eq_true,Bool.and_eq_true,decide_eq_true_eq] at h
 omega
theorem met_no {k j:Nat} {u v:Vx} (hv:p.vs[k]? =some v) (hu:p.vs[j]? =some u) (hj:j<k) (h:u.at_=v.at_):rightR p=false:=by
 rw[Bool.eq_false_iff,ne_eq,rightR_iff]
 intro r
 exact(r.v k v hv).ne j u hj hu h
theorem badV_ok {k:Nat} {v:Vx} (h:badV p.vs k v=false) (hne: ∀j u,j<k→p.vs[j]? =some u→u.at_≠v.at_):VOk p.vs k v:=by
 unfold badV at h
 simp only[Bool.or_eq_false_iff,Bool.and_eq_false_iff,decide_eq_false_iff_not,Bool.not_eq_false'] at h
 obtain⟨⟨h1,h2⟩,h3⟩:=h
 refine⟨?_,by simpa using h3,hne⟩
 rcases Nat.eq_zero_or_pos k with rfl|hk
 ·show(0:Int)<v.id
  omega
 ·omega
theorem badE_no {k:Nat} {e:Ed} (he:p.es[k]? =some e) (h:badE p.vs p.es k e=true):rightR p=false:=by
 rw[Bool.eq_false_iff,ne_eq,rightR_iff]
 intro r
 obtain⟨A,B,h1⟩:=r.e k e he
 have h2:=eid_nn (vs:=p.vs) (es:=p.es) (k:=k) (fun i v _ hv=>r.e i v hv) (Nat.le_of_lt (List.getElem?_eq_some_iff.1 he).1)
 have h3:=h1.rise
 unfold badE at h
 rw[hasV_iff.2 ⟨A,h1.pa⟩,hasV_iff.2 ⟨B,h1.pb⟩] at h
 simp only[Bool.not_true,Bool.or_false,Bool.or_eq_true,Bool.and_eq_true,decide_eq_true_eq] at h
 have h4:=h1.ab
 omega
theorem badW_no {k:Nat} {e:Ed} (he:p.es[k]? =some e) (h:badW p.vs p.es k e=true):rightR p=false:=by
 rw[Bool.eq_false_iff,ne_eq,rightR_iff]
 intro r
 obtain⟨A,B,h1⟩:=r.e k e he
 unfold badW at h
 rw[findV_ptOf h1.pa,findV_ptOf h1.pb] at h
 simp only[Bool.or_eq_true,List.any_eq_true] at h
 rcases h with (⟨f,hf,hl⟩|⟨v,hv,ho⟩)|⟨f,hf,hm⟩
 ·obtain⟨j,hj⟩:=List.mem_iff_getElem?.1 hf
  rw[List.getElem?_take] at hj
  split at hj
  ·exact h1.pair j f ‹_› hj ((link_ends rfl rfl).1 hl)
  ·cases hj
 ·rw[h1.way v hv] at ho;cases ho
 ·obtain⟨j,hj⟩:=List.mem_iff_getElem?.1 hf
  rw[List.getElem?_take] at hj
  split at hj
  ·have:=h1.cross j f ‹_› hj
   rw[findV_ptZ,findV_ptZ,this] at hm
   cases hm
  ·cases hj
theorem badE_has {vs:List Vx} {es:List Ed} {k:Nat} {e:Ed} (h:badE vs es k e=false):hasV vs e.a=true∧hasV vs e.b=true∧e.a≠e.b:=by
 unfold badE at h
 simp only[Bool.or_eq_false_iff,decide_eq_false_iff_not,Bool.not_eq_false'] at h
 exact⟨h.1.2,h.2,h.1.1.2⟩
theorem badE_ok {k:Nat} {e:Ed} (h:badE p.vs p.es k e=false) (hw:badW p.vs p.es k e=false): ∃A B,EOk p.vs p.es k e A B:=by
 obtain⟨ha,hb,hab⟩:=badE_has h
 obtain⟨A,hA⟩:=hasV_iff.1 ha
 obtain⟨B,hB⟩:=hasV_iff.1 hb
 unfold badE at h
 simp only[Bool.or_eq_false_iff,Bool.and_eq_false_iff,decide_eq_false_iff_not,Bool.not_eq_false'] at h
 obtain⟨⟨⟨⟨h1,h2⟩, -⟩, -⟩, -⟩:=h
 unfold badW at hw
 rw[findV_ptOf hA,findV_ptOf hB] at hw
 simp only[Bool.or_eq_false_iff,List.any_eq_false] at hw
 obtain⟨⟨w1,w2⟩,w3⟩:=hw
 refine⟨A,B, ?_,hA,hB,hab,fun j f hj hf he=> ?_,fun v hv=>by simpa using w2 v hv,fun j f hj hf=> ?_⟩
 ·rcases Nat.eq_zero_or_pos k with rfl|hk
  ·show(0:Int)<e.id
   omega
  ·omega
 ·exact w1 f (List.mem_of_getElem? (i:=j) (by rw[List.getElem?_take,if_pos hj];exact hf)) ((link_ends rfl rfl).2 he)
 ·have:=w3 f (List.mem_of_getElem? (i:=j) (by rw[List.getElem?_take,if_pos hj];exact hf))
  rw[findV_ptZ,findV_ptZ] at this
  simpa using this
theorem EdIn.of {vs:List Vx} (hv: ∀i v,vs[i]? =some v→VOk vs i v) {e:Ed} (ha:hasV vs e.a=true) (hb:hasV vs e.b=true) (hab:e.a≠e.b):EdIn vs e:=by
 have look: ∀ {id:Int},hasV vs id=true→ ∃i,vs[i]? =some (findV vs id)∧(findV vs id).id=id:=fun {id} h=>by
  obtain⟨hp, -⟩:=placeV_at h
  refine⟨_,hp, ?_⟩
  unfold hasV at h
  obtain⟨v,hv⟩:=Option.isSome_iff_exists.1 h
  have:=List.find?_some hv
  unfold findV
  rw[hv]
  simpa[isV] using this
 obtain⟨i,hi,ei⟩:=look ha
 obtain⟨j,hj,ej⟩:=look hb
 refine⟨ha,hb,(hv i _ hi).inr,(hv j _ hj).inr,fun h=> ?_⟩
 rcases Nat.lt_trichotomy i j with hl|hl|hl
 ·exact(hv j _ hj).ne i _ hl hi h
 ·subst hl
  rw[hi] at hj
  injection hj with hj
  exact hab (by rw[←ei, ←ej,hj])
 ·exact(hv i _ hi).ne j _ hl hj h.symm
theorem size_no (h:512<p.vs.length∨1024<p.es.length):rightR p=false:=by
 rw[Bool.eq_false_iff,ne_eq,rightR_iff]
 intro r
 have:=r.nv
 have:=r.ne
 omega
end
end Go.Proofs.YthopjhifepijiaaGreat
namespace Go.Proofs.YthopjhifepijiaaGreat
open Go.RowKit Go.Joins
theorem VsIn.row {w:World} {B:Nat} {a:Option Addr} {n:Nat} {l:List Vx} (h:VsIn w B a n l) (hn:0<n): ∃b off,a=some ⟨b,off,none⟩∧b<B∧ ∀w',Below B w w'→ ∀i v,l[i]? =some v→
  w'.cell? ⟨b,off+i*3,none⟩=some (.int .i64 v.id)∧w'.cell? ⟨b,off+i*3+1,none⟩=some (.int .i64 v.at_.x)∧w'.cell? ⟨b,off+i*3+1+1,none⟩=some (.int .i64 v.at_.y):=by
 obtain⟨h1,h2|⟨b,off,ha,hlt,hc⟩⟩:=h
 ·omega
 ·exact⟨b,off,ha,hlt,fun w' hb i v hv=>⟨(hb.cell (p:=⟨b,_,none⟩) hlt).trans (hc i v hv).1,(hb.cell (p:=⟨b,_,none⟩) hlt).trans (hc i v hv).2.1,(hb.cell (p:=⟨b,_,none⟩) hlt).trans (hc i v hv).2.2⟩⟩
theorem EsIn.row {w:World} {B:Nat} {a:Option Addr} {n:Nat} {l:List Ed} (h:EsIn w B a n l) (hn:0<n): ∃b off,a=some ⟨b,off,none⟩∧b<B∧ ∀w',Below B w w'→ ∀i v,l[i]? =some v→
  w'.cell? ⟨b,off+i*3,none⟩=some (.int .i64 v.id)∧w'.cell? ⟨b,off+i*3+1,none⟩=some (.int .i64 v.a)∧w'.cell? ⟨b,off+i*3+1+1,none⟩=some (.int .i64 v.b):=by
 obtain⟨h1,h2|⟨b,off,ha,hlt,hc⟩⟩:=h
 ·omega
 ·exact⟨b,off,ha,hlt,fun w' hb i v hv=>⟨(hb.cell (p:=⟨b,_,none⟩) hlt).trans (hc i v hv).1,(hb.cell (p:=⟨b,_,none⟩) hlt).trans (hc i v hv).2.1,(hb.cell (p:=⟨b,_,none⟩) hlt).trans (hc i v hv).2.2⟩⟩
theorem pid_suc {vs:List Vx} {m:Nat} {u:Vx} (h:vs[m]? =some u):pid vs (m+1)=u.id:=by
 show((vs[m]?).map (·.id)).getD 0=u.id
 rw[h];rfl
theorem eid_suc {es:List Ed} {m:Nat} {u:Ed} (h:es[m]? =some u):eid es (m+1)=u.id:=by
 show((es[m]?).map (·.id)).getD 0=u.id
 rw[h];rfl
theorem plI_cases (vs:List Vx) (id:Int):(hasV vs id=true∧ ¬plI vs id<0)∨(hasV vs id=false∧plI vs id<0):=by
 unfold plI
 cases hasV vs id
 ·exact .inr ⟨rfl,by simp⟩
 ·exact .inl ⟨rfl,by simp⟩
set_option maxRecDepth 100000 in
set_option maxHeartbeats 16000000 in
theorem r15right_any {w:World} {B vn vc en ec:Nat} {va ea:Option Addr} {p:PL} (hv:VsIn w B va vn p.vs) (he:EsIn w B ea en p.es) (hB:B≤w.heap.size) (hec:en≤ec):
  Calls Tryz.prog 10 #[.agg #[.slice va vn vc, .slice ea en ec]] w fun e w'=>e= .returned (.bool (rightR p))∧Below w.heap.size w w':=by
 have HL:=Lib.hid hv.1
 have HM:=Lib.hid he.1
 by_cases l1:512<vn
 ·rw[size_no (.inl (by rw[←hv.1];exact l1))]
  clear hv he
  go_enter Tryz.func10,Tryz.ntmps10
  go_wp2_with fail
  go_ret
  exact⟨rfl,below_alloc (Below.refl _ _)⟩
 by_cases l2:1024<en
 ·rw[size_no (.inr (by rw[←he.1];exact l2))]
  clear hv he
  go_enter Tryz.func10,Tryz.ntmps10
  go_wp2_with fail
  go_ret
  exact⟨rfl,below_alloc (Below.refl _ _)⟩
 have HV:=Lib.hid hv
 have HE:=Lib.hid he
 have HIN:=fun(q:Pt) W=>Lib.hid (r5in_any q W)
 clear hv he
 go_enter Tryz.func10,Tryz.ntmps10
 go_wp2_with fail
 first|refine wp_name (fun W hW=> ?_)|refine calls_name (fun W hW=> ?_)
 have HW:Hid (Below w.heap.size w W):=Lib.hid (by rw[←hW];repeat (first|exact Below.refl _ _|refine below_alloc ?_))
 have HWs:Hid (W.heap.size=w.heap.size+1):=Lib.hid (by rw[←hW];simp)
 have HBW:Hid (W.heap.size≤W.heap.size):=Lib.hid (by have:=HWs.out;omega)
 have HC:=fun(W1:World) (hb:Below (W.heap.size) W W1)=>Lib.hid (show W1.cell? ⟨w.heap.size,0,none⟩=some (.slice va vn vc)∧W1.cell? ⟨w.heap.size,1,none⟩=some (.slice ea en ec) from by have hs:=HWs.out;refine⟨?_, ?_⟩<;>(refine(hb.cell (by dsimp only;omega)).trans ?_;rw[←hW];clear hW;go_simp))
 have HB:=Lib.hid (Below.refl (W.heap.size) W)
 clear hW
 have HZ:=fun(W1:World) (hb:W.heap.size≤W1.heap.size)=>Lib.hid (show w.heap.size<W1.heap.size from by have:=HWs.out;omega)
 obtain⟨qx0,qx1⟩:=(HC _ HB.out).out
 have rx0:=(HZ _ HB.out.size).out
 go_wp2_with fail
 clear qx0 qx1 rx0
 go_loopw [3] (fun v wr=> ∃k:Nat,k≤vn∧v= .int .i64 k∧(∀j u,j<k→p.vs[j]? =some u→VOk p.vs j u)∧Below W.heap.size W wr) (fun v _=>vn - (intOf v).toNat)
 case atStart=>exact⟨0,Nat.zero_le _,rfl,fun j u hj=>absurd hj (by omega),HB.out⟩
 case round=>
  clear HB
  obtain⟨k,hk,rfl,hall,hb⟩:=hrel
  obtain⟨wq,rfl⟩: ∃x:World,x=wr:=⟨_,rfl⟩
  have HB:=Lib.hid hb
  have HA:=Lib.hid hall
  clear hb hall
  obtain⟨qx0,qx1⟩:=(HC _ HB.out).out
  have rx0:=(HZ _ HB.out.size).out
  have HX:=Lib.hid (HW.out.trans (HB.out.mono HW.out.size))
  by_cases hlt:k<vn
  ·skip
   obtain⟨vb,off,rfl,hvb,hcell⟩:=HV.out.row (by omega)
   have HCV:=fun(W1:World) (hb:Below w.heap.size w W1) (i:Nat) (u:Vx) (hi:p.vs[i]? =some u)=>Lib.hid (hcell W1 (hb.mono hB) i u hi)
   clear hcell
   obtain⟨v,hv⟩: ∃v,p.vs[k]? =some v:=⟨_,List.getElem?_eq_getElem (by have:=HL.out;omega)⟩
   have HVK:=Lib.hid hv
   clear hv
   obtain⟨e0,e1,e2⟩:=(HCV _ HX.out k v HVK.out).out
   go_wp2_with fail
   first|refine wp_name (fun W2 hW2=> ?_)|refine calls_name (fun W2 hW2=> ?_)
   have HW2:Hid (Below wq.heap.size wq W2):=Lib.hid (by rw[←hW2];repeat (first|exact Below.refl _ _|refine below_alloc ?_))
   have HWs2:Hid (W2.heap.size=wq.heap.size+1):=Lib.hid (by rw[←hW2];simp)
   have HBW2:Hid (W2.heap.size≤W2.heap.size):=Lib.hid (by have:=HWs2.out;omega)
   have HC2:=fun(W1:World) (hb:Below (W2.heap.size) W2 W1)=>Lib.hid (show W1.cell? ⟨w.heap.size,0,none⟩=some (.slice (some ⟨vb,off,none⟩) vn vc)∧W1.cell? ⟨w.heap.size,1,none⟩=some (.slice ea en ec)∧W1.cell? ⟨wq.heap.size,0,none⟩=some (.int .i64 v.id)∧W1.cell? ⟨wq.heap.size,1,none⟩=some (.int .i64 v.at_.x)∧W1.cell? ⟨wq.heap.size,2,none⟩=some (.int .i64 v.at_.y) from by have ho:=(HC W1 (in_of HB.out HW2.out hb (Nat.le_trans HBW.out HB.out.size) (by have h1:=HBW.out;have h2:=HB.out.size;have h3:=HW2.out.size;have h4:=HWs2.out;omega))).out;have hs:=HWs2.out;have z1:=HWs.out;have z2:=HB.out.size;refine⟨ho.1,ho.2, ?_, ?_, ?_⟩<;>(refine(hb.cell (by dsimp only;omega)).trans ?_;rw[←hW2];clear hW2;go_simp))
   have HB2:=Lib.hid (Below.refl (W2.heap.size) W2)
   clear hW2
   have HZ2:=fun(W1:World) (hb:W2.heap.size≤W1.heap.size)=>Lib.hid (show w.heap.size<W1.heap.size∧wq.heap.size<W1.heap.size from by have o0:=(HZ _ HB.out.size).out;have h3:=HW2.out.size;have:=HWs2.out;refine⟨?_, ?_⟩<;>omega)
   clear qx0 qx1 rx0
   obtain⟨qx0,qx1,qx2,qx3,qx4⟩:=(HC2 _ HB2.out).out
   obtain⟨rx0,rx1⟩:=(HZ2 _ HB2.out.size).out
   have HX2:=Lib.hid (below_step HW2.out HX.out)
   clear e0 e1 e2
   have HIV:=HIN v.at_
   go_upto_region 7 with fail
   go_cut [3,55] (fun kv pv wx=>kv= .int .i64 k∧pv= .bool (badV p.vs k v)∧Below W2.heap.size W2 wx)
   case first=>
    have hbd:badV p.vs k v=((decide (v.id<1)||(decide (0<k)&&decide (v.id≤pid p.vs k)))|| !inB v.at_):=rfl
    generalize inB v.at_=z at hbd HIV
    rcases Nat.eq_zero_or_pos k with hk0|hk0
    ·have hk1: ¬(0:Int)<(k:Int):=by omega
     have hk2:decide (0<k)=false:=by simp;omega
     have hk3: ¬0<k:=by omega
     rw[hk2] at hbd
     clear hk0 hk2
     by_cases c1:v.id<1
     all_goals
      first|rw[decide_eq_true c1] at hbd|rw[decide_eq_false c1] at hbd
      refine wp_name (fun c4 hc4=> ?_)
      have HB2:=bnm HB2 HBW2 hc4
      skip
      clear hc4
      have xx:=fun(x:Later c4)=>(HC2 _ (bnl HB2 HBW2 x.2)).out
      simp only[forall_and] at xx
      obtain⟨xx0,xx1,xx2,xx3,xx4⟩:=xx
      refine wp_region_later (by kernel_rfl) (by kernel_rfl) ?_
      repeat (first|go_big_quiet_step (((go_at_call 22;with_reducible refine Later.call (HIV _).out)))|quiet_step (((go_at_call 22;with_reducible refine Later.call (HIV _).out))))
      refine wpQuiet_nil ?_
      intro w4 hw4
      have hb4:=later_below hw4
      clear hw4
      have HB2:=Lib.hid (bnl HB2 HBW2 hb4)
      clear xx0 xx1 xx2 xx3 xx4
      clear qx0 qx1 qx2 qx3 qx4 rx0 rx1
      obtain⟨qx0,qx1,qx2,qx3,qx4⟩:=(HC2 _ HB2.out).out
      skip
      clear hb4
      obtain⟨rx0,rx1⟩:=(HZ2 _ HB2.out.size).out
      go_wp2_with fail
      go_meet
      exact⟨by simp,by rw[hbd];simp,HB2.out⟩
    ·obtain⟨m,rfl⟩: ∃m,k=m+1:=⟨k - 1,by omega⟩
     obtain⟨u,hu⟩: ∃u,p.vs[m]? =some u:=⟨_,List.getElem?_eq_getElem (by have:=HL.out;omega)⟩
     have HUM:=Lib.hid hu
     rw[pid_suc hu] at hbd
     clear hu
     have hm1:m<vn:=by omega
     have hm2:(0:Int)<(m:Int)+1:=by omega
     by_cases c1:v.id<1
     case' neg=>by_cases c2:v.id≤u.id
     all_goals
      first|rw[decide_eq_true c1] at hbd|rw[decide_eq_false c1,decide_eq_true c2] at hbd|rw[decide_eq_false c1,decide_eq_false c2] at hbd
      refine wp_name (fun c5 hc5=> ?_)
      have HB2:=bnm HB2 HBW2 hc5
      have y9:=fun(x:Later c5)=>(HCV x.1 (HX2.out.trans ((HB2.out.trans (x.2.mono HB2.out.size)).mono HX2.out.size)) m u HUM.out).out.1
      clear hc5
      have xx:=fun(x:Later c5)=>(HC2 _ (bnl HB2 HBW2 x.2)).out
      simp only[forall_and] at xx
      obtain⟨xx0,xx1,xx2,xx3,xx4⟩:=xx
      refine wp_region_later (by kernel_rfl) (by kernel_rfl) ?_
      repeat (first|go_big_quiet_step (((go_at_call 22;with_reducible refine Later.call (HIV _).out)))|quiet_step (((go_at_call 22;with_reducible refine Later.call (HIV _).out))))
      refine wpQuiet_nil ?_
      intro w5 hw5
      have hb5:=later_below hw5
      clear hw5
      have HB2:=Lib.hid (bnl HB2 HBW2 hb5)
      clear xx0 xx1 xx2 xx3 xx4
      clear qx0 qx1 qx2 qx3 qx4 rx0 rx1
      obtain⟨qx0,qx1,qx2,qx3,qx4⟩:=(HC2 _ HB2.out).out
      skip
      clear hb5
      obtain⟨rx0,rx1⟩:=(HZ2 _ HB2.out.size).out
      go_wp2_with fail
      go_meet
      exact⟨by simp,by rw[hbd];simp,HB2.out⟩
   case rest=>
   obtain⟨rfl,rfl,hbx⟩:=hcut
   have HB2:=Lib.hid hbx
   clear hbx
   have HBO:=Lib.hid (HB.out.trans ((HW2.out.trans (HB2.out.mono HW2.out.size)).mono HB.out.size))
   cases hbad:badV p.vs k v
   ·have HBAD:=Lib.hid hbad
    clear hbad
    clear qx0 qx1 qx2 qx3 qx4 rx0 rx1
    obtain⟨qx0,qx1,qx2,qx3,qx4⟩:=(HC2 _ HB2.out).out
    obtain⟨rx0,rx1⟩:=(HZ2 _ HB2.out.size).out
    go_wp2_with fail
    clear qx0 qx1 qx2 qx3 qx4 rx0 rx1
    go_loopw [5] (fun z wi=> ∃j:Nat,j≤k∧z= .int .i64 j∧(∀i u,i<j→p.vs[i]? =some u→u.at_≠v.at_)∧Below W2.heap.size W2 wi) (fun z _=>k - (intOf z).toNat)
    case atStart=>exact⟨0,Nat.zero_le _,rfl,fun i u hi=>absurd hi (by omega),HB2.out⟩
    case round=>
     clear HB2 HBO
     obtain⟨j,hj,rfl,hmet,hb⟩:=hrel
     have HB2:=Lib.hid hb
     have HMT:=Lib.hid hmet
     clear hb hmet
     obtain⟨qx0,qx1,qx2,qx3,qx4⟩:=(HC2 _ HB2.out).out
     obtain⟨rx0,rx1⟩:=(HZ2 _ HB2.out.size).out
     have HX3:=Lib.hid (HX2.out.trans (HB2.out.mono HX2.out.size))
     by_cases hjk:j<k
     ·obtain⟨u,hu⟩: ∃u,p.vs[j]? =some u:=⟨_,List.getElem?_eq_getElem (by have:=HL.out;omega)⟩
      have HUJ:=Lib.hid hu
      clear hu
      have hjv:j<vn:=by omega
      cases heq:decide (u.at_=v.at_)
      ·have rq:=eq_pt_f heq
       have HEQ:=Lib.hid heq
       clear heq
       go_wp2_with fail
       refine wp_name (fun c8 hc8=> ?_)
       have HB2:=bnm HB2 HBW2 hc8
       have y8:=fun(x:Later c8)=>(HCV x.1 (HX2.out.trans ((HB2.out.trans (x.2.mono HB2.out.size)).mono HX2.out.size)) j u HUJ.out).out.2
       clear hc8
       have xx:=fun(x:Later c8)=>(HC2 _ (bnl HB2 HBW2 x.2)).out
       simp only[forall_and] at xx
       obtain⟨xx0,xx1,xx2,xx3,xx4⟩:=xx
       refine wp_region_later (by kernel_rfl) (by kernel_rfl) ?_
       repeat (first|go_big_quiet_step ((fail))|quiet_step ((fail)))
       refine wpQuiet_nil ?_
       intro w8 hw8
       have hb8:=later_below hw8
       clear hw8
       have HB2:=Lib.hid (bnl HB2 HBW2 hb8)
       clear xx0 xx1 xx2 xx3 xx4
       clear qx0 qx1 qx2 qx3 qx4 rx0 rx1
       obtain⟨qx0,qx1,qx2,qx3,qx4⟩:=(HC2 _ HB2.out).out
       skip
       clear hb8
       obtain⟨rx0,rx1⟩:=(HZ2 _ HB2.out.size).out
       go_wp2_with fail
       go_roundw
       case rel=>
        refine⟨j+1,by omega,by go_num,fun i x hi hx=> ?_,HB2.out⟩
        by_cases hij:i<j
        ·exact HMT.out i x hij hx
        ·obtain rfl:i=j:=by omega
         rw[HUJ.out] at hx
         injection hx with hx
         subst hx
         exact of_decide_eq_false HEQ.out
       case measure=>simp[intOf];omega
      ·have F:=Lib.hid (met_no HVK.out HUJ.out hjk (of_decide_eq_true heq))
       have rq:=eq_pt_t heq
       clear heq
       go_wp2_with fail
       refine wp_name (fun c9 hc9=> ?_)
       have HB2:=bnm HB2 HBW2 hc9
       have y8:=fun(x:Later c9)=>(HCV x.1 (HX2.out.trans ((HB2.out.trans (x.2.mono HB2.out.size)).mono HX2.out.size)) j u HUJ.out).out.2
       clear hc9
       have xx:=fun(x:Later c9)=>(HC2 _ (bnl HB2 HBW2 x.2)).out
       simp only[forall_and] at xx
       obtain⟨xx0,xx1,xx2,xx3,xx4⟩:=xx
       refine wp_region_later (by kernel_rfl) (by kernel_rfl) ?_
       repeat (first|go_big_quiet_step ((fail))|quiet_step ((fail)))
       refine wpQuiet_nil ?_
       intro w9 hw9
       have hb9:=later_below hw9
       clear hw9
       have HB2:=Lib.hid (bnl HB2 HBW2 hb9)
       clear xx0 xx1 xx2 xx3 xx4
       clear qx0 qx1 qx2 qx3 qx4 rx0 rx1
       obtain⟨qx0,qx1,qx2,qx3,qx4⟩:=(HC2 _ HB2.out).out
       skip
       clear hb9
       obtain⟨rx0,rx1⟩:=(HZ2 _ HB2.out.size).out
       go_wp2_with fail
       go_ret
       exact⟨by rw[F.out];rfl,HX2.out.trans (HB2.out.mono HX2.out.size)⟩
     ·have HOK:=Lib.hid (badV_ok HBAD.out (fun i u hi hu=>HMT.out i u (by omega) hu))
      have HBO:=Lib.hid (HB.out.trans ((HW2.out.trans (HB2.out.mono HW2.out.size)).mono HB.out.size))
      go_wp2_with fail
      go_roundw
      case rel=>
       refine⟨k+1,by omega,by go_num,fun i x hi hx=> ?_,HBO.out⟩
       by_cases hik:i<k
       ·exact HA.out i x hik hx
       ·obtain rfl:i=k:=by omega
        rw[HVK.out] at hx
        injection hx with hx
        subst hx
        exact HOK.out
      case measure=>simp[intOf];omega
   ·have F:=Lib.hid (badV_no HVK.out hbad)
    clear hbad
    clear qx0 qx1 qx2 qx3 qx4 rx0 rx1
    obtain⟨qx0,qx1,qx2,qx3,qx4⟩:=(HC2 _ HB2.out).out
    obtain⟨rx0,rx1⟩:=(HZ2 _ HB2.out.size).out
    go_wp2_with fail
    go_ret
    exact⟨by rw[F.out];rfl,HW.out.trans (HBO.out.mono HW.out.size)⟩
  ·have HVO:=Lib.hid (fun i v (h:p.vs[i]? =some v)=>HA.out i v (by have:=(List.getElem?_eq_some_iff.1 h).1;have:=HL.out;omega) h)
   clear HA
   have HVX:=fun(W1:World) (hb:Below w.heap.size w W1) (id:Int) (ea1:Option Addr)=>Lib.hid (r15vertex_any (w:=W1) (vc:=vc) (HV.out.below (hb.mono hB)) (Nat.le_trans hB hb.size) (by omega) (.slice ea1 en ec) ⟨_,_,_,rfl⟩ id)
   obtain⟨wo,rfl⟩: ∃x:World,x=wq:=⟨_,rfl⟩
   go_wp2_with fail
   clear qx0 qx1 rx0
   go_loopw [6] (fun v wr=> ∃n:Nat,n≤en∧v= .int .i64 n∧(∀j f,j<n→p.es[j]? =some f→ ∃A B,EOk p.vs p.es j f A B)∧Below W.heap.size W wr) (fun v _=>en - (intOf v).toNat)
   case atStart=>exact⟨0,Nat.zero_le _,rfl,fun j u hj=>absurd hj (by omega),HB.out⟩
   case round=>
    clear HB HX
    obtain⟨n,hn,rfl,hall,hb⟩:=hrel
    obtain⟨wq,rfl⟩: ∃x:World,x=wr:=⟨_,rfl⟩
    have HB:=Lib.hid hb
    have HA:=Lib.hid hall
    clear hb hall
    obtain⟨qx0,qx1⟩:=(HC _ HB.out).out
    have rx0:=(HZ _ HB.out.size).out
    have HX:=Lib.hid (HW.out.trans (HB.out.mono HW.out.size))
    by_cases hln:n<en
    ·obtain⟨eb,eoff,rfl,heb,hcell⟩:=HE.out.row (by omega)
     have HCE:=fun(W1:World) (hb:Below w.heap.size w W1) (i:Nat) (u:Ed) (hi:p.es[i]? =some u)=>Lib.hid (hcell W1 (hb.mono hB) i u hi)
     clear hcell
     obtain⟨e,he⟩: ∃e,p.es[n]? =some e:=⟨_,List.getElem?_eq_getElem (by have:=HM.out;omega)⟩
     have HEK:=Lib.hid he
     clear he
     obtain⟨e0,e1,e2⟩:=(HCE _ HX.out n e HEK.out).out
     go_wp2_with fail
     first|refine wp_name (fun W2 hW2=> ?_)|refine calls_name (fun W2 hW2=> ?_)
     have HW2:Hid (Below wq.heap.size wq W2):=Lib.hid (by rw[←hW2];repeat (first|exact Below.refl _ _|refine below_alloc ?_))
     have HWs2:Hid (W2.heap.size=wq.heap.size+1):=Lib.hid (by rw[←hW2];simp)
     have HBW2:Hid (W2.heap.size≤W2.heap.size):=Lib.hid (by have:=HWs2.out;omega)
     have HC2:=fun(W1:World) (hb:Below (W2.heap.size) W2 W1)=>Lib.hid (show W1.cell? ⟨w.heap.size,0,none⟩=some (.slice va vn vc)∧W1.cell? ⟨w.heap.size,1,none⟩=some (.slice (some ⟨eb,eoff,none⟩) en ec)∧W1.cell? ⟨wq.heap.size,0,none⟩=some (.int .i64 e.id)∧W1.cell? ⟨wq.heap.size,1,none⟩=some (.int .i64 e.a)∧W1.cell? ⟨wq.heap.size,2,none⟩=some (.int .i64 e.b) from by have ho:=(HC W1 (in_of HB.out HW2.out hb (Nat.le_trans HBW.out HB.out.size) (by have h1:=HBW.out;have h2:=HB.out.size;have h3:=HW2.out.size;have h4:=HWs2.out;omega))).out;have hs:=HWs2.out;have z1:=HWs.out;have z2:=HB.out.size;refine⟨ho.1,ho.2, ?_, ?_, ?_⟩<;>(refine(hb.cell (by dsimp only;omega)).trans ?_;rw[←hW2];clear hW2;go_simp))
     have HB2:=Lib.hid (Below.refl (W2.heap.size) W2)
     clear hW2
     have HZ2:=fun(W1:World) (hb:W2.heap.size≤W1.heap.size)=>Lib.hid (show w.heap.size<W1.heap.size∧wq.heap.size<W1.heap.size from by have o0:=(HZ _ HB.out.size).out;have h3:=HW2.out.size;have:=HWs2.out;refine⟨?_, ?_⟩<;>omega)
     clear qx0 qx1 rx0
     obtain⟨qx0,qx1,qx2,qx3,qx4⟩:=(HC2 _ HB2.out).out
     obtain⟨rx0,rx1⟩:=(HZ2 _ HB2.out.size).out
     have HX2:=Lib.hid (below_step HW2.out HX.out)
     clear e0 e1 e2
     have HVA:=fun(W1:World) (hb:Below w.heap.size w W1)=>HVX W1 hb e.a (some ⟨eb,eoff,none⟩)
     have HVB:=fun(W1:World) (hb:Below w.heap.size w W1)=>HVX W1 hb e.b (some ⟨eb,eoff,none⟩)
     go_upto_region 18 with fail
     go_cut [6,121] (fun kv pv wx=>kv= .int .i64 n∧pv= .bool (badE p.vs p.es n e)∧Below W2.heap.size W2 wx)
     case first=>
      have hbd:badE p.vs p.es n e=((((decide (e.id<1)||(decide (0<n)&&decide (e.id≤eid p.es n)))||decide (e.a=e.b))|| !hasV p.vs e.a)|| !hasV p.vs e.b):=rfl
      have hxa:=plI_cases p.vs e.a
      have hxb:=plI_cases p.vs e.b
      generalize plI p.vs e.a=xa at HVA hxa
      generalize plI p.vs e.b=xb at HVB hxb
      rcases Nat.eq_zero_or_pos n with hk0|hk0
      ·have hk1: ¬(0:Int)<(n:Int):=by omega
       have hk2:decide (0<n)=false:=by simp;omega
       have hk3: ¬0<n:=by omega
       rw[hk2] at hbd
       clear hk0 hk2
       by_cases c1:e.id<1
       case' pos=>rw[decide_eq_true c1] at hbd
       case' neg=>
        rw[decide_eq_false c1] at hbd
        cases c3:(e.a==e.b)
        case' true=>
         have c3':decide (e.a=e.b)=true:=by simpa using c3
         rw[c3'] at hbd
         clear c3' hxa hxb
        case' false=>
         have c3':decide (e.a=e.b)=false:=by simpa using c3
         rw[c3'] at hbd
         clear c3'
         rcases hxa with ⟨h1,h2⟩|⟨h1,h2⟩
         case' inr=>
          rw[h1] at hbd
          clear h1 hxb
         case' inl=>
          rw[h1] at hbd
          clear h1
          rcases hxb with ⟨h3,h4⟩|⟨h3,h4⟩
          all_goals
           rw[h3] at hbd
           clear h3
       all_goals
        refine wp_name (fun c13 hc13=> ?_)
        have HB2:=bnm HB2 HBW2 hc13
        have YB:=fun(x:Later c13)=>HX2.out.trans ((HB2.out.trans (x.2.mono HB2.out.size)).mono HX2.out.size);have HVAL:=fun(x:Later c13)=>HVA x.1 (YB x);have HVBL:=fun(x:Later c13)=>HVB x.1 (YB x);clear YB
        clear hc13
        have xx:=fun(x:Later c13)=>(HC2 _ (bnl HB2 HBW2 x.2)).out
        simp only[forall_and] at xx
        obtain⟨xx0,xx1,xx2,xx3,xx4⟩:=xx
        refine wp_region_later (by kernel_rfl) (by kernel_rfl) ?_
        repeat (first|go_big_quiet_step (((first|(go_at_call 23;with_reducible refine Later.call (HVAL _).out)|(go_at_call 23;with_reducible refine Later.call (HVBL _).out))))|quiet_step (((first|(go_at_call 23;with_reducible refine Later.call (HVAL _).out)|(go_at_call 23;with_reducible refine Later.call (HVBL _).out)))))
        refine wpQuiet_nil ?_
        intro w13 hw13
        have hb13:=later_below hw13
        clear hw13
        have HB2:=Lib.hid (bnl HB2 HBW2 hb13)
        clear xx0 xx1 xx2 xx3 xx4
        clear qx0 qx1 qx2 qx3 qx4 rx0 rx1
        obtain⟨qx0,qx1,qx2,qx3,qx4⟩:=(HC2 _ HB2.out).out
        skip
        clear hb13
        obtain⟨rx0,rx1⟩:=(HZ2 _ HB2.out.size).out
        go_wp2_with fail
        go_meet
        exact⟨by simp,by rw[hbd];simp,HB2.out⟩
      ·obtain⟨m,rfl⟩: ∃m,n=m+1:=⟨n - 1,by omega⟩
       obtain⟨u,hu⟩: ∃u,p.es[m]? =some u:=⟨_,List.getElem?_eq_getElem (by have:=HM.out;omega)⟩
       have HUM:=Lib.hid hu
       rw[eid_suc hu] at hbd
       clear hu
       have hm1:m<en:=by omega
       have hm2:(0:Int)<(m:Int)+1:=by omega
       by_cases c1:e.id<1
       case' pos=>rw[decide_eq_true c1] at hbd
       case' neg=>
        rw[decide_eq_false c1] at hbd
        by_cases c2:e.id≤u.id
        case' pos=>rw[decide_eq_true c2] at hbd
        case' neg=>
         rw[decide_eq_false c2] at hbd
         cases c3:(e.a==e.b)
         case' true=>
          have c3':decide (e.a=e.b)=true:=by simpa using c3
          rw[c3'] at hbd
          clear c3' hxa hxb
         case' false=>
          have c3':decide (e.a=e.b)=false:=by simpa using c3
          rw[c3'] at hbd
          clear c3'
          rcases hxa with ⟨h1,h2⟩|⟨h1,h2⟩
          case' inr=>
           rw[h1] at hbd
           clear h1 hxb
          case' inl=>
           rw[h1] at hbd
           clear h1
           rcases hxb with ⟨h3,h4⟩|⟨h3,h4⟩
           all_goals
            rw[h3] at hbd
            clear h3
       all_goals
        refine wp_name (fun c14 hc14=> ?_)
        have HB2:=bnm HB2 HBW2 hc14
        have YB:=fun(x:Later c14)=>HX2.out.trans ((HB2.out.trans (x.2.mono HB2.out.size)).mono HX2.out.size);have HVAL:=fun(x:Later c14)=>HVA x.1 (YB x);have HVBL:=fun(x:Later c14)=>HVB x.1 (YB x);have y9:=fun(x:Later c14)=>(HCE x.1 (YB x) m u HUM.out).out.1;clear YB
        clear hc14
        have xx:=fun(x:Later c14)=>(HC2 _ (bnl HB2 HBW2 x.2)).out
        simp only[forall_and] at xx
        obtain⟨xx0,xx1,xx2,xx3,xx4⟩:=xx
        refine wp_region_later (by kernel_rfl) (by kernel_rfl) ?_
        repeat (first|go_big_quiet_step (((first|(go_at_call 23;with_reducible refine Later.call (HVAL _).out)|(go_at_call 23;with_reducible refine Later.call (HVBL _).out))))|quiet_step (((first|(go_at_call 23;with_reducible refine Later.call (HVAL _).out)|(go_at_call 23;with_reducible refine Later.call (HVBL _).out)))))
        refine wpQuiet_nil ?_
        intro w14 hw14
        have hb14:=later_below hw14
        clear hw14
        have HB2:=Lib.hid (bnl HB2 HBW2 hb14)
        clear xx0 xx1 xx2 xx3 xx4
        clear qx0 qx1 qx2 qx3 qx4 rx0 rx1
        obtain⟨qx0,qx1,qx2,qx3,qx4⟩:=(HC2 _ HB2.out).out
        skip
        clear hb14
        obtain⟨rx0,rx1⟩:=(HZ2 _ HB2.out.size).out
        go_wp2_with fail
        go_meet
        exact⟨by simp,by rw[hbd];simp,HB2.out⟩
     case rest=>
     obtain⟨rfl,rfl,hbx⟩:=hcut
     have HB2:=Lib.hid hbx
     clear hbx
     have HBO:=Lib.hid (HB.out.trans ((HW2.out.trans (HB2.out.mono HW2.out.size)).mono HB.out.size))
     cases hbad:badE p.vs p.es n e
     ·have HBAD:=Lib.hid hbad
      have hE:=badE_has hbad
      have hnc:n≤ec:=by omega
      have HEI:=Lib.hid (EdIn.of HVO.out hE.1 hE.2.1 hE.2.2)
      clear hbad hE
      clear qx0 qx1 qx2 qx3 qx4 rx0 rx1
      obtain⟨qx0,qx1,qx2,qx3,qx4⟩:=(HC2 _ HB2.out).out
      obtain⟨rx0,rx1⟩:=(HZ2 _ HB2.out.size).out
      go_wp2_with fail
      clear qx0 qx1 qx2 qx3 qx4 rx0 rx1
      have HY:=fun(w':World) (t:Below wc.heap.size wc w')=>Lib.hid (show w'.cell? ⟨w.heap.size,0,none⟩=some (.slice va vn vc)∧w'.cell? ⟨w.heap.size,1,none⟩=some (.slice (some ⟨eb,eoff,none⟩) en ec) from(HC _ (HBO.out.trans (t.mono HBO.out.size))).out)
      have HS0:=Lib.hid (Below.refl wc.heap.size wc).drew
      refine wp_region_noPanic ?_
      refine wp_region_par3 8 8 (by kernel_rfl) (by kernel_rfl) (by simp) (by omega) (by kernel_rfl) (by kernel_rfl) (fun w':World=>Below wc.heap.size wc w') ?_
      refine par3_move (v:= ?_) 0 (by simp only[zga,zgb,zgc];rfl) (by kernel_rfl) (by rfl) ?_ (fun _ _ _ h=>h) ?_
      rotate_left
      ·(intro w9;go_simp;try with_reducible rfl)
      simp only[Act.put,zpa,zpb,zpc]
      refine par3_read (v:= ?_) 1 (by simp only[zga,zgb,zgc];rfl) (by kernel_rfl) (by rfl) HS0.out ?_ (fun _ _ _ h=>h) ?_
      rotate_left
      ·(intro w9 hSw;obtain⟨y0,y1⟩:=(HY w9 hSw).out;clear hSw;go_simp;try with_reducible rfl)
      simp only[Act.put,zpa,zpb,zpc]
      refine par3_move (v:= ?_) 2 (by simp only[zga,zgb,zgc];rfl) (by kernel_rfl) (by rfl) ?_ (fun _ _ _ h=>h) ?_
      rotate_left
      ·(intro w9;go_simp;try with_reducible rfl)
      simp only[Act.put,zpa,zpb,zpc]
      refine par3_read (v:= ?_) 3 (by simp only[zga,zgb,zgc];rfl) (by kernel_rfl) (by rfl) HS0.out ?_ (fun _ _ _ h=>h) ?_
      rotate_left
      ·(intro w9 hSw;obtain⟨y0,y1⟩:=(HY w9 hSw).out;clear hSw;go_simp;try with_reducible rfl)
      simp only[Act.put,zpa,zpb,zpc]
      refine par3_move (v:= ?_) 4 (by simp only[zga,zgb,zgc];rfl) (by kernel_rfl) (by rfl) ?_ (fun _ _ _ h=>h) ?_
      rotate_left
      ·(intro w9;go_simp;try with_reducible rfl)
      simp only[Act.put,zpa,zpb,zpc]
      refine par3_move (v:= ?_) 5 (by simp only[zga,zgb,zgc];rfl) (by kernel_rfl) (by rfl) ?_ (fun _ _ _ h=>h) ?_
      rotate_left
      ·(intro w9;go_simp;try with_reducible rfl)
      simp only[Act.put,zpa,zpb,zpc]
      refine par3_move (v:= ?_) 6 (by simp only[zga,zgb,zgc];rfl) (by kernel_rfl) (by rfl) ?_ (fun _ _ _ h=>h) ?_
      rotate_left
      ·(intro w9;go_simp;try with_reducible rfl)
      simp only[Act.put,zpa,zpb,zpc]
      refine par3_nm (fun W8 hW8=> ?_)
      rw[←hW8] at HS0
      clear hW8
      refine par3_one 7 (by simp only[zga,zgb,zgc];rfl) (by kernel_rfl) (by rfl) ?_
      refine owp_val (v:= ?_) (w1:= ?_) ?_ ?_
      rotate_left 2
      ·(go_simp;constructor<;>rfl)
      refine⟨fun s _=>s.alloc s.size _, ?_⟩
      simp only[Act.put,zpa,zpb,zpc]
      refine par3_tail _ (by simp only[List.drop_succ_cons,List.drop_zero];rfl) (by kernel_rfl) ?_
      go_wp2_with fail
      refine NoPanic.normal ?_
      go_upto_region 21 with fail
      have HB2:=Lib.hid (HB2.out.trans (HS0.out.mono HB2.out.size))
      first|refine wp_name (fun W3 hW3=> ?_)|refine calls_name (fun W3 hW3=> ?_)
      have HW3:Hid (Below W8.heap.size W8 W3):=Lib.hid (by rw[←hW3];repeat (first|exact Below.refl _ _|refine below_alloc ?_))
      have HWs3:Hid (W3.heap.size=W8.heap.size+1):=Lib.hid (by rw[←hW3];simp)
      have HBW3:Hid (W3.heap.size≤W3.heap.size):=Lib.hid (by have:=HWs3.out;omega)
      have HC3:=fun(W1:World) (hb:Below (W3.heap.size) W3 W1)=>Lib.hid (show W1.cell? ⟨w.heap.size,0,none⟩=some (.slice va vn vc)∧W1.cell? ⟨w.heap.size,1,none⟩=some (.slice (some ⟨eb,eoff,none⟩) en ec)∧W1.cell? ⟨wq.heap.size,0,none⟩=some (.int .i64 e.id)∧W1.cell? ⟨wq.heap.size,1,none⟩=some (.int .i64 e.a)∧W1.cell? ⟨wq.heap.size,2,none⟩=some (.int .i64 e.b)∧W1.cell? ⟨W8.heap.size,0,none⟩=some (.slice va vn vc)∧W1.cell? ⟨W8.heap.size,1,none⟩=some (.slice (some ⟨eb,eoff,none⟩) n ec) from by have ho:=(HC2 W1 (in_of HB2.out HW3.out hb (Nat.le_trans HBW2.out HB2.out.size) (by have h1:=HBW2.out;have h2:=HB2.out.size;have h3:=HW3.out.size;have h4:=HWs3.out;omega))).out;have hs:=HWs3.out;have z1:=HWs2.out;have z2:=HB2.out.size;refine⟨ho.1,ho.2.1,ho.2.2.1,ho.2.2.2.1,ho.2.2.2.2, ?_, ?_⟩<;>(refine(hb.cell (by dsimp only;omega)).trans ?_;rw[←hW3];clear hW3;go_simp))
      have HB3:=Lib.hid (Below.refl (W3.heap.size) W3)
      clear hW3
      have HZ3:=fun(W1:World) (hb:W3.heap.size≤W1.heap.size)=>Lib.hid (show w.heap.size<W1.heap.size∧wq.heap.size<W1.heap.size∧W8.heap.size<W1.heap.size from by obtain⟨o0,o1⟩:=(HZ2 _ HB2.out.size).out;have h3:=HW3.out.size;have:=HWs3.out;refine⟨?_, ?_, ?_⟩<;>omega)
      obtain⟨qx0,qx1,qx2,qx3,qx4,qx5,qx6⟩:=(HC3 _ HB3.out).out
      obtain⟨rx0,rx1,rx2⟩:=(HZ3 _ HB3.out.size).out
      have HX3:=Lib.hid (below_step HW3.out (HX2.out.trans (HB2.out.mono HX2.out.size)))
      clear HY HS0 HBO
      have HLK:=fun(W1:World) (hb:Below w.heap.size w W1)=>Lib.hid (r15links_any (w:=W1) (ec:=ec) ((HE.out.take hn).below (hb.mono hB)) (Nat.le_trans hB hb.size) (by omega) (.slice va vn vc) ⟨_,_,_,rfl⟩ e.a e.b)
      have HAA:=fun(W1:World) (hb:Below w.heap.size w W1)=>Lib.hid (r15at_any (w:=W1) (vc:=vc) (HV.out.below (hb.mono hB)) (Nat.le_trans hB hb.size) (by omega) (.slice (some ⟨eb,eoff,none⟩) en ec) ⟨_,_,_,rfl⟩ e.a HEI.out.va)
      have HAB:=fun(W1:World) (hb:Below w.heap.size w W1)=>Lib.hid (r15at_any (w:=W1) (vc:=vc) (HV.out.below (hb.mono hB)) (Nat.le_trans hB hb.size) (by omega) (.slice (some ⟨eb,eoff,none⟩) en ec) ⟨_,_,_,rfl⟩ e.b HEI.out.vb)
      have HON:=fun(W1:World) (hb:Below w.heap.size w W1)=>Lib.hid (r15on_any (w:=W1) (vc:=vc) (HV.out.below (hb.mono hB)) (Nat.le_trans hB hb.size) (by omega) (.slice (some ⟨eb,eoff,none⟩) en ec) ⟨_,_,_,rfl⟩ (findV p.vs e.a).at_ (findV p.vs e.b).at_ (fun v hv=>by
       obtain⟨i,hi⟩:=List.mem_iff_getElem?.1 hv
       exact(HVO.out i v hi).inr) HEI.out.ia HEI.out.ib)
      have HME:=fun(W1:World) (hb:Below w.heap.size w W1)=>Lib.hid (r15meets_any (w:=W1) (vc:=vc) (ec:=ec) (HV.out.below (hb.mono hB)) (HE.out.below (hb.mono hB)) (Nat.le_trans hB hb.size) (by omega) (by omega) (findV p.vs e.a).at_ (findV p.vs e.b).at_ HEI.out.ia HEI.out.ib HEI.out.ne (n:=n) hn (fun i f hi hf=>by
       obtain⟨A,B,ho⟩:=HA.out i f hi hf
       exact EdIn.of HVO.out (hasV_iff.2 ⟨A,ho.pa⟩) (hasV_iff.2 ⟨B,ho.pb⟩) ho.ab))
      go_cut [6,159] (fun kv pv wx=>kv= .int .i64 n∧pv= .bool (badW p.vs p.es n e)∧Below W3.heap.size W3 wx)
      case first=>
       have hbd:badW p.vs p.es n e=(((p.es.take n).any (linkB e.a e.b)||p.vs.any fun v=>onB v.at_ (findV p.vs e.a).at_ (findV p.vs e.b).at_)||(p.es.take n).any fun f=>meetB (findV p.vs e.a).at_ (findV p.vs e.b).at_ (findV p.vs f.a).at_ (findV p.vs f.b).at_):=rfl
       obtain⟨L,hL⟩: ∃x,x=(p.es.take n).any (linkB e.a e.b):=⟨_,rfl⟩
       obtain⟨O,hO⟩: ∃x,x=p.vs.any fun v=>onB v.at_ (findV p.vs e.a).at_ (findV p.vs e.b).at_:=⟨_,rfl⟩
       obtain⟨M,hM⟩: ∃x,x=(p.es.take n).any fun f=>meetB (findV p.vs e.a).at_ (findV p.vs e.b).at_ (findV p.vs f.a).at_ (findV p.vs f.b).at_:=⟨_,rfl⟩
       rw[←hL] at HLK hbd
       rw[←hO] at HON hbd
       rw[←hM] at HME hbd
       clear hL hO hM HEI
       generalize (findV p.vs e.a).at_=A at HAA HON HME
       generalize (findV p.vs e.b).at_=D at HAB HON HME
       cases L
       case' false=>cases O
       all_goals
        refine wp_name (fun c17 hc17=> ?_)
        have HB3:=bnm HB3 HBW3 hc17
        have YB:=fun(x:Later c17)=>HX3.out.trans ((HB3.out.trans (x.2.mono HB3.out.size)).mono HX3.out.size);have HLKL:=fun(x:Later c17)=>HLK x.1 (YB x);have HAAL:=fun(x:Later c17)=>HAA x.1 (YB x);have HABL:=fun(x:Later c17)=>HAB x.1 (YB x);have HONL:=fun(x:Later c17)=>HON x.1 (YB x);have HMEL:=fun(x:Later c17)=>HME x.1 (YB x);clear YB
        clear hc17
        have xx:=fun(x:Later c17)=>(HC3 _ (bnl HB3 HBW3 x.2)).out
        simp only[forall_and] at xx
        obtain⟨xx0,xx1,xx2,xx3,xx4,xx5,xx6⟩:=xx
        refine wp_region_later (by kernel_rfl) (by kernel_rfl) ?_
        repeat (first|go_big_quiet_step (((first|(go_at_call 24;with_reducible refine Later.call (HLKL _).out)|(go_at_call 26;with_reducible refine Later.call (HAAL _).out)|(go_at_call 26;with_reducible refine Later.call (HABL _).out)|(go_at_call 25;with_reducible refine Later.call (HONL _).out)|(go_at_call 27;with_reducible refine Later.call (HMEL _).out))))|quiet_step (((first|(go_at_call 24;with_reducible refine Later.call (HLKL _).out)|(go_at_call 26;with_reducible refine Later.call (HAAL _).out)|(go_at_call 26;with_reducible refine Later.call (HABL _).out)|(go_at_call 25;with_reducible refine Later.call (HONL _).out)|(go_at_call 27;with_reducible refine Later.call (HMEL _).out)))))
        refine wpQuiet_nil ?_
        intro w17 hw17
        have hb17:=later_below hw17
        clear hw17
        have HB3:=Lib.hid (bnl HB3 HBW3 hb17)
        clear xx0 xx1 xx2 xx3 xx4 xx5 xx6
        clear qx0 qx1 qx2 qx3 qx4 qx5 qx6 rx0 rx1 rx2
        obtain⟨qx0,qx1,qx2,qx3,qx4,qx5,qx6⟩:=(HC3 _ HB3.out).out
        skip
        clear hb17
        obtain⟨rx0,rx1,rx2⟩:=(HZ3 _ HB3.out.size).out
        go_wp2_with fail
        go_meet
        exact⟨by simp,by rw[hbd];simp,HB3.out⟩
      case rest=>
      obtain⟨rfl,rfl,hbx⟩:=hcut
      have HB3:=Lib.hid hbx
      clear hbx
      have hb3:=HW3.out.trans (HB3.out.mono HW3.out.size)
      have hb2:=HB2.out.trans (hb3.mono HB2.out.size)
      have HBO:=Lib.hid (HB.out.trans ((HW2.out.trans (hb2.mono HW2.out.size)).mono HB.out.size))
      clear hb3 hb2
      clear qx0 qx1 qx2 qx3 qx4 qx5 qx6 rx0 rx1 rx2
      obtain⟨qx0,qx1,qx2,qx3,qx4,qx5,qx6⟩:=(HC3 _ HB3.out).out
      obtain⟨rx0,rx1,rx2⟩:=(HZ3 _ HB3.out.size).out
      cases hbw:badW p.vs p.es n e
      ·have HOK:=Lib.hid (badE_ok HBAD.out hbw)
       clear hbw
       go_wp2_with fail
       go_roundw
       case rel=>
        refine⟨n+1,by omega,by go_num,fun i x hi hx=> ?_,HBO.out⟩
        by_cases hik:i<n
        ·exact HA.out i x hik hx
        ·obtain rfl:i=n:=by omega
         rw[HEK.out] at hx
         injection hx with hx
         subst hx
         exact HOK.out
       case measure=>simp[intOf];omega
      ·have F:=Lib.hid (badW_no HEK.out hbw)
       clear hbw
       go_wp2_with fail
       go_ret
       exact⟨by rw[F.out];rfl,HW.out.trans (HBO.out.mono HW.out.size)⟩
     ·have F:=Lib.hid (badE_no HEK.out hbad)
      clear hbad
      clear qx0 qx1 qx2 qx3 qx4 rx0 rx1
      obtain⟨qx0,qx1,qx2,qx3,qx4⟩:=(HC2 _ HB2.out).out
      obtain⟨rx0,rx1⟩:=(HZ2 _ HB2.out.size).out
      go_wp2_with fail
      go_ret
      exact⟨by rw[F.out];rfl,HW.out.trans (HBO.out.mono HW.out.size)⟩
    ·have F:=Lib.hid (show rightR p=true from rightR_iff.2 ⟨by have:=HL.out;omega,by have:=HM.out;omega,HVO.out,fun i x hx=>HA.out i x (by have:=(List.getElem?_eq_some_iff.1 hx).1;have:=HM.out;omega) hx⟩)
     go_wp2_with fail
     go_ret
     exact⟨by rw[F.out];rfl,HX.out⟩
end Go.Proofs.YthopjhifepijiaaGreat
