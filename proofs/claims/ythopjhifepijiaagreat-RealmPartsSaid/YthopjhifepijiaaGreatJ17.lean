/- Lemmas on the way to the statement. -/
import Derived.Test.YthopjhifepijiaaGreatJ15
import Derived.Test.YthopjhifepijiaaGreatJ16
set_option linter.unusedSimpArgs false
set_option linter.unusedVariables false
namespace Go.Proofs.YthopjhifepijiaaGreat
open Go.RowKit Go.Joins
theorem Tryz.results32:Tryz.f32.results= #[.cell 4 87]:=by kernel_rfl
theorem NmV.form {w:World} {lo B:Nat} {v:Value} {x:Int} (h:NmV w lo B v x): ∃g a n c,v= .agg #[.bool g, .slice a n c]:=by
 obtain⟨g,a,n,c,l,e, -⟩:=h
 exact⟨_,_,_,_,e⟩
theorem NmV.dig {w:World} {lo B:Nat} {g:Bool} {d:Value} {x:Int} (h:NmV w lo B (.agg #[.bool g,d]) x): ∃a n c,d= .slice a n c:=by
 obtain⟨g,a,n,c,l,e, -⟩:=h
 simp at e
 exact⟨_,_,_,e.2⟩
theorem areaL_snoc (l:List (Pt × Pt)) (x:Pt × Pt):areaL (l++[x])=areaL l+(x.1.x*x.2.y - x.2.x*x.1.y):=by
 unfold areaL
 rw[List.foldl_append]
 rfl
theorem bdN_of {k:Nat} {s:Int} (h: -(k:Int)*144115188075855872≤s∧s≤(k:Int)*144115188075855872) (hk:k≤2000):bdN s:=by
 unfold bdN
 omega
theorem bdN_few {x:Int} (h: -144115188075855872≤x∧x≤144115188075855872):bdN x:=by
 unfold bdN
 omega
theorem bd_next {k:Nat} {s t:Int} (h: -(k:Int)*144115188075855872≤s∧s≤(k:Int)*144115188075855872) (ht: -144115188075855872≤t∧t≤144115188075855872): -((k+1:Nat):Int)*144115188075855872≤s+t∧s+t≤((k+1:Nat):Int)*144115188075855872:=by
 omega
structure ArS (W wr:World) (b k:Nat) (s:Int) (g:Bool) (d:Value):Prop where
 row:wr.rowIs b 87 2 (nmF g d)
 num:NmV wr W.heap.size wr.heap.size (.agg #[.bool g,d]) s
 bd: -(k:Int)*144115188075855872≤s∧s≤(k:Int)*144115188075855872
 tch:Touch [b] W wr
set_option maxRecDepth 100000 in
set_option maxHeartbeats 16000000 in
theorem r17area_any {w:World} {B vn vc en ec n c:Nat} {va ea a:Option Addr} {p:PL} {R:List Hf} (hv:VsIn w B va vn p.vs) (he:EsIn w B ea en p.es) (hr:HsIn w B a n R) (hB:B≤w.heap.size) (hec:en≤ec) (hn:vn≤100000) (hm:en≤100000) (hl:n≤2000):
  Calls Tryz.prog 32 #[.agg #[.slice va vn vc, .slice ea en ec], .slice a n c] w fun e w'=>(∃z,e= .returned z∧NmV w' w.heap.size w'.heap.size z (areaPr p R))∧Below w.heap.size w w':=by
 have HRT:=fun(W:World) (hb:Below w.heap.size w W)=>Lib.hid (r15right_any (w:=W) (vc:=vc) (hv.below (hb.mono hB)) (he.below (hb.mono hB)) (Nat.le_trans hB hb.size) hec)
 have HKN:=fun(W:World) (hb:Below w.heap.size w W)=>Lib.hid (r17known_any (w:=W) (c:=c) (ec:=ec) (he.below (hb.mono hB)) (hr.below (hb.mono hB)) (Nat.le_trans hB hb.size) hm (by omega) (.slice va vn vc) ⟨_,_,_,rfl⟩)
 have HV:=Lib.hid hv
 have HE:=Lib.hid he
 have HRS:=Lib.hid hr
 have HL:=Lib.hid hr.1
 clear hv he hr
 cases hrr:rightR p
 ·rw[hrr] at HRT
  have F:=Lib.hid (show areaPr p R=0 from by unfold areaPr;rw[←rightR_eq,hrr];rfl)
  clear hrr
  go_enter Tryz.func32,Tryz.ntmps32
  go_wp2_with fail
  first|refine wp_name (fun W hW=> ?_)|refine calls_name (fun W hW=> ?_)
  have HW:Hid (Below w.heap.size w W):=Lib.hid (by rw[←hW];repeat (first|exact Below.refl _ _|refine below_alloc ?_))
  have HWs:Hid (W.heap.size=w.heap.size+1+1+1):=Lib.hid (by rw[←hW];simp)
  have HBW:Hid (W.heap.size≤W.heap.size):=Lib.hid (by have:=HWs.out;omega)
  have HC:=fun(W1:World) (hb:Below (W.heap.size) W W1)=>Lib.hid (show W1.cell? ⟨w.heap.size,0,none⟩=some (.slice va vn vc)∧W1.cell? ⟨w.heap.size,1,none⟩=some (.slice ea en ec)∧W1.cell? ⟨w.heap.size+1,0,none⟩=some (.bool false)∧W1.cell? ⟨w.heap.size+1,1,none⟩=some (.slice none 0 0)∧W1.cell? ⟨w.heap.size+1+1,0,none⟩=some (.bool false)∧W1.cell? ⟨w.heap.size+1+1,1,none⟩=some (.slice none 0 0) from by have hs:=HWs.out;refine⟨?_, ?_, ?_, ?_, ?_, ?_⟩<;>(refine(hb.cell (by dsimp only;omega)).trans ?_;rw[←hW];clear hW;go_simp))
  have HB:=Lib.hid (Below.refl (W.heap.size) W)
  have HZ:=fun(W1:World) (hb:W.heap.size≤W1.heap.size)=>Lib.hid (show w.heap.size<W1.heap.size∧w.heap.size+1<W1.heap.size∧w.heap.size+1+1<W1.heap.size from by have:=HWs.out;refine⟨?_, ?_, ?_⟩<;>omega)
  obtain⟨qx0,qx1,qx2,qx3,qx4,qx5⟩:=(HC _ HB.out).out
  obtain⟨rx0,rx1,rx2⟩:=(HZ _ HB.out.size).out
  have HQ:=Lib.hid (show W.rowIs (w.heap.size+1) 87 2 (nmF false (.slice none 0 0)) from by
   have:=(World.rowIs_alloc (w.alloc (.cells #[.slice va vn vc, .slice ea en ec] 25)) #[.bool false, .slice none 0 0] 87 (nmF false (.slice none 0 0)) (fun i hi=>by rcases i with _|_|i<;>first|rfl|(simp at hi;omega))).alloc (.cells #[.bool false, .slice none 0 0] 87)
   rw[hW] at this
   simpa using this)
  have HP:=Lib.hid (show W.rowIs (w.heap.size+1+1) 87 2 (nmF false (.slice none 0 0)) from by
   have:=World.rowIs_alloc ((w.alloc (.cells #[.slice va vn vc, .slice ea en ec] 25)).alloc (.cells #[.bool false, .slice none 0 0] 87)) #[.bool false, .slice none 0 0] 87 (nmF false (.slice none 0 0)) (fun i hi=>by rcases i with _|_|i<;>first|rfl|(simp at hi;omega))
   rw[hW] at this
   simpa using this)
  clear hW
  refine((HRT _ HW.out).out).mono ?_
  rintro e w1 ⟨rfl,hb2⟩
  have HB:=bnx HB HBW hb2
  clear qx0 qx1 qx2 qx3 qx4 qx5 rx0 rx1 rx2
  obtain⟨qx0,qx1,qx2,qx3,qx4,qx5⟩:=(HC _ HB.out).out
  clear hb2
  obtain⟨rx0,rx1,rx2⟩:=(HZ _ HB.out.size).out
  have HQ1:=Lib.hid (rowIs_touch HQ.out (Touch.of_below (F:=[]) HB.out) (by simp))
  have f1:=fun i=>World.rowIs.frozen HQ1.out i
  go_wp2_with fail
  refine bodyPost_ret_by (res_nm (g:=false) (v:= .slice none 0 0) Tryz.results32 rfl (World.rowIs.congr (World.rowIs.set (World.rowIs.set HQ1.out 0 _) 1 _) (fun i hi=>by rcases i with _|_|i<;>first|rfl|exact absurd hi (by omega)))) rfl ?_
  exact⟨⟨_,rfl,by rw[F.out];exact NmV.zero _ _ _⟩,((HW.out.trans (HB.out.mono HW.out.size)).setCell (p:=⟨w.heap.size+1,0,none⟩) (by show _≤w.heap.size+1;omega) _).setCell (p:=⟨w.heap.size+1,1,none⟩) (by show _≤w.heap.size+1;omega) _⟩
 cases hkn:(R.all fun h=>hasE p.es h.edge)
 ·rw[hrr] at HRT
  rw[hkn] at HKN
  have F:=Lib.hid (show areaPr p R=0 from by unfold areaPr;rw[show knownB p R=false from hkn];simp)
  clear hrr hkn
  go_enter Tryz.func32,Tryz.ntmps32
  go_wp2_with fail
  first|refine wp_name (fun W hW=> ?_)|refine calls_name (fun W hW=> ?_)
  have HW:Hid (Below w.heap.size w W):=Lib.hid (by rw[←hW];repeat (first|exact Below.refl _ _|refine below_alloc ?_))
  have HWs:Hid (W.heap.size=w.heap.size+1+1+1):=Lib.hid (by rw[←hW];simp)
  have HBW:Hid (W.heap.size≤W.heap.size):=Lib.hid (by have:=HWs.out;omega)
  have HC:=fun(W1:World) (hb:Below (W.heap.size) W W1)=>Lib.hid (show W1.cell? ⟨w.heap.size,0,none⟩=some (.slice va vn vc)∧W1.cell? ⟨w.heap.size,1,none⟩=some (.slice ea en ec)∧W1.cell? ⟨w.heap.size+1,0,none⟩=some (.bool false)∧W1.cell? ⟨w.heap.size+1,1,none⟩=some (.slice none 0 0)∧W1.cell? ⟨w.heap.size+1+1,0,none⟩=some (.bool false)∧W1.cell? ⟨w.heap.size+1+1,1,none⟩=some (.slice none 0 0) from by have hs:=HWs.out;refine⟨?_, ?_, ?_, ?_, ?_, ?_⟩<;>(refine(hb.cell (by dsimp only;omega)).trans ?_;rw[←hW];clear hW;go_simp))
  have HB:=Lib.hid (Below.refl (W.heap.size) W)
  have HZ:=fun(W1:World) (hb:W.heap.size≤W1.heap.size)=>Lib.hid (show w.heap.size<W1.heap.size∧w.heap.size+1<W1.heap.size∧w.heap.size+1+1<W1.heap.size from by have:=HWs.out;refine⟨?_, ?_, ?_⟩<;>omega)
  obtain⟨qx0,qx1,qx2,qx3,qx4,qx5⟩:=(HC _ HB.out).out
  obtain⟨rx0,rx1,rx2⟩:=(HZ _ HB.out.size).out
  have HQ:=Lib.hid (show W.rowIs (w.heap.size+1) 87 2 (nmF false (.slice none 0 0)) from by
   have:=(World.rowIs_alloc (w.alloc (.cells #[.slice va vn vc, .slice ea en ec] 25)) #[.bool false, .slice none 0 0] 87 (nmF false (.slice none 0 0)) (fun i hi=>by rcases i with _|_|i<;>first|rfl|(simp at hi;omega))).alloc (.cells #[.bool false, .slice none 0 0] 87)
   rw[hW] at this
   simpa using this)
  have HP:=Lib.hid (show W.rowIs (w.heap.size+1+1) 87 2 (nmF false (.slice none 0 0)) from by
   have:=World.rowIs_alloc ((w.alloc (.cells #[.slice va vn vc, .slice ea en ec] 25)).alloc (.cells #[.bool false, .slice none 0 0] 87)) #[.bool false, .slice none 0 0] 87 (nmF false (.slice none 0 0)) (fun i hi=>by rcases i with _|_|i<;>first|rfl|(simp at hi;omega))
   rw[hW] at this
   simpa using this)
  clear hW
  refine((HRT _ HW.out).out).mono ?_
  rintro e w1 ⟨rfl,hb4⟩
  have HB:=bnx HB HBW hb4
  clear qx0 qx1 qx2 qx3 qx4 qx5 rx0 rx1 rx2
  obtain⟨qx0,qx1,qx2,qx3,qx4,qx5⟩:=(HC _ HB.out).out
  clear hb4
  obtain⟨rx0,rx1,rx2⟩:=(HZ _ HB.out.size).out
  go_wp2_with fail
  refine((HKN _ (HW.out.trans (HB.out.mono HW.out.size))).out).mono ?_
  rintro e w2 ⟨rfl,hb5⟩
  have HB:=bnx HB HBW hb5
  clear qx0 qx1 qx2 qx3 qx4 qx5 rx0 rx1 rx2
  obtain⟨qx0,qx1,qx2,qx3,qx4,qx5⟩:=(HC _ HB.out).out
  clear hb5
  obtain⟨rx0,rx1,rx2⟩:=(HZ _ HB.out.size).out
  have HQ1:=Lib.hid (rowIs_touch HQ.out (Touch.of_below (F:=[]) HB.out) (by simp))
  have f1:=fun i=>World.rowIs.frozen HQ1.out i
  go_wp2_with fail
  refine bodyPost_ret_by (res_nm (g:=false) (v:= .slice none 0 0) Tryz.results32 rfl (World.rowIs.congr (World.rowIs.set (World.rowIs.set HQ1.out 0 _) 1 _) (fun i hi=>by rcases i with _|_|i<;>first|rfl|exact absurd hi (by omega)))) rfl ?_
  exact⟨⟨_,rfl,by rw[F.out];exact NmV.zero _ _ _⟩,((HW.out.trans (HB.out.mono HW.out.size)).setCell (p:=⟨w.heap.size+1,0,none⟩) (by show _≤w.heap.size+1;omega) _).setCell (p:=⟨w.heap.size+1,1,none⟩) (by show _≤w.heap.size+1;omega) _⟩
 have HRP:=Lib.hid (rightR_iff.1 hrr)
 have HKP:=Lib.hid (List.all_eq_true.1 hkn)
 have HD:=Lib.hid (show areaPr p R=areaL (R.map (endsP p)) from by unfold areaPr;rw[←rightR_eq,hrr,show knownB p R=true from hkn,known_lines hkn];rfl)
 rw[hrr] at HRT
 rw[hkn] at HKN
 clear hrr hkn
 go_enter Tryz.func32,Tryz.ntmps32
 go_wp2_with fail
 first|refine wp_name (fun W hW=> ?_)|refine calls_name (fun W hW=> ?_)
 have HW:Hid (Below w.heap.size w W):=Lib.hid (by rw[←hW];repeat (first|exact Below.refl _ _|refine below_alloc ?_))
 have HWs:Hid (W.heap.size=w.heap.size+1+1+1):=Lib.hid (by rw[←hW];simp)
 have HBW:Hid (W.heap.size≤W.heap.size):=Lib.hid (by have:=HWs.out;omega)
 have HC:=fun(W1:World) (hb:Below (W.heap.size) W W1)=>Lib.hid (show W1.cell? ⟨w.heap.size,0,none⟩=some (.slice va vn vc)∧W1.cell? ⟨w.heap.size,1,none⟩=some (.slice ea en ec)∧W1.cell? ⟨w.heap.size+1,0,none⟩=some (.bool false)∧W1.cell? ⟨w.heap.size+1,1,none⟩=some (.slice none 0 0)∧W1.cell? ⟨w.heap.size+1+1,0,none⟩=some (.bool false)∧W1.cell? ⟨w.heap.size+1+1,1,none⟩=some (.slice none 0 0) from by have hs:=HWs.out;refine⟨?_, ?_, ?_, ?_, ?_, ?_⟩<;>(refine(hb.cell (by dsimp only;omega)).trans ?_;rw[←hW];clear hW;go_simp))
 have HB:=Lib.hid (Below.refl (W.heap.size) W)
 have HZ:=fun(W1:World) (hb:W.heap.size≤W1.heap.size)=>Lib.hid (show w.heap.size<W1.heap.size∧w.heap.size+1<W1.heap.size∧w.heap.size+1+1<W1.heap.size from by have:=HWs.out;refine⟨?_, ?_, ?_⟩<;>omega)
 obtain⟨qx0,qx1,qx2,qx3,qx4,qx5⟩:=(HC _ HB.out).out
 obtain⟨rx0,rx1,rx2⟩:=(HZ _ HB.out.size).out
 have HQ:=Lib.hid (show W.rowIs (w.heap.size+1) 87 2 (nmF false (.slice none 0 0)) from by
  have:=(World.rowIs_alloc (w.alloc (.cells #[.slice va vn vc, .slice ea en ec] 25)) #[.bool false, .slice none 0 0] 87 (nmF false (.slice none 0 0)) (fun i hi=>by rcases i with _|_|i<;>first|rfl|(simp at hi;omega))).alloc (.cells #[.bool false, .slice none 0 0] 87)
  rw[hW] at this
  simpa using this)
 have HP:=Lib.hid (show W.rowIs (w.heap.size+1+1) 87 2 (nmF false (.slice none 0 0)) from by
  have:=World.rowIs_alloc ((w.alloc (.cells #[.slice va vn vc, .slice ea en ec] 25)).alloc (.cells #[.bool false, .slice none 0 0] 87)) #[.bool false, .slice none 0 0] 87 (nmF false (.slice none 0 0)) (fun i hi=>by rcases i with _|_|i<;>first|rfl|(simp at hi;omega))
  rw[hW] at this
  simpa using this)
 clear hW
 refine((HRT _ HW.out).out).mono ?_
 rintro e w1 ⟨rfl,hb7⟩
 have HB:=bnx HB HBW hb7
 clear qx0 qx1 qx2 qx3 qx4 qx5 rx0 rx1 rx2
 obtain⟨qx0,qx1,qx2,qx3,qx4,qx5⟩:=(HC _ HB.out).out
 clear hb7
 obtain⟨rx0,rx1,rx2⟩:=(HZ _ HB.out.size).out
 go_wp2_with fail
 refine((HKN _ (HW.out.trans (HB.out.mono HW.out.size))).out).mono ?_
 rintro e w2 ⟨rfl,hb8⟩
 have HB:=bnx HB HBW hb8
 clear qx0 qx1 qx2 qx3 qx4 qx5 rx0 rx1 rx2
 obtain⟨qx0,qx1,qx2,qx3,qx4,qx5⟩:=(HC _ HB.out).out
 clear hb8
 obtain⟨rx0,rx1,rx2⟩:=(HZ _ HB.out.size).out
 have HA0:Hid (ArS W w2 (w.heap.size+1+1) 0 (areaL ((R.map (endsP p)).take 0)) false (.slice none 0 0)):=Lib.hid ⟨rowIs_touch HP.out (Touch.of_below (F:=[]) HB.out) (by simp),NmV.zero _ _ _,by rw[List.take_zero];exact⟨by decide,by decide⟩,Touch.of_below HB.out⟩
 clear HP
 go_wp2_with fail
 clear qx0 qx1 qx2 qx3 qx4 qx5 rx0 rx1 rx2
 go_loopw [6] (fun iv wr=> ∃(k:Nat) (g:Bool) (d:Value),k≤n∧iv= .int .i64 k∧ArS W wr (w.heap.size+1+1) k (areaL ((R.map (endsP p)).take k)) g d) (fun iv _=>n - (intOf iv).toNat)
 case atStart=>exact⟨0,_,_,Nat.zero_le _,rfl,HA0.out⟩
 case round=>
  clear HB HA0
  obtain⟨k,g,d,hk,rfl,hI⟩:=hrel
  obtain⟨da,dn,dc,rfl⟩:=hI.num.dig
  have HI:=Lib.hid hI
  have HB:=Lib.hid (hI.tch)
  have hs1:w.heap.size+1+1<wr.heap.size:=by have:=HWs.out;have:=hI.tch.size;omega
  have hs2:w.heap.size+1<wr.heap.size:=by omega
  have hs3:w.heap.size<wr.heap.size:=by omega
  have HX:=Lib.hid (HW.out.trans (Touch.below hI.tch HW.out.size (by intro b hb;simp at hb;omega)))
  obtain⟨p0,p1⟩:wr.cell? ⟨w.heap.size,0,none⟩=some (.slice va vn vc)∧wr.cell? ⟨w.heap.size,1,none⟩=some (.slice ea en ec):=by
   have hs:=HWs.out
   obtain⟨d0,d1, -⟩:=(HC W (Below.refl _ _)).out
   exact⟨(hI.tch.cell (p:=⟨w.heap.size,_,none⟩) (by show w.heap.size<_;omega) (by simp<;>omega)).trans d0,(hI.tch.cell (p:=⟨w.heap.size,_,none⟩) (by show w.heap.size<_;omega) (by simp<;>omega)).trans d1⟩
  have HPP:=Lib.hid (show wr.cell? ⟨w.heap.size,0,none⟩=some (.slice va vn vc)∧wr.cell? ⟨w.heap.size,1,none⟩=some (.slice ea en ec) from⟨p0,p1⟩)
  have c0:wr.cell? ⟨w.heap.size+1+1,0,none⟩=some (.bool g):=World.rowIs.cell hI.row (i:=0) (by decide)
  have c1:wr.cell? ⟨w.heap.size+1+1,1,none⟩=some (.slice da dn dc):=World.rowIs.cell hI.row (i:=1) (by decide)
  clear hI
  by_cases hlt:k<n
  ·obtain⟨rb,roff,rfl,hrb,hcell⟩:=HRS.out.row (by omega)
   have hrw:rb<wr.heap.size:=by have:=HX.out.size;omega
   obtain⟨v,hv⟩: ∃v,R[k]? =some v:=⟨_,List.getElem?_eq_getElem (by have:=HL.out;omega)⟩
   have HVK:=Lib.hid hv
   have hcw:=hcell wr (HX.out.mono hB) k v hv
   have HCR:=Lib.hid hcw
   have hhe:=HKP.out v (List.mem_of_getElem? hv)
   have HEN:=fun(W1:World) (hb:Below w.heap.size w W1)=>Lib.hid (r17ends_any (w:=W1) (vc:=vc) (ec:=ec) (HV.out.below (hb.mono hB)) (HE.out.below (hb.mono hB)) (Nat.le_trans hB hb.size) hn hm v (HRP.out.halfIn hhe))
   have hpt:=HRP.out.half_pts (known_mem (h:=v) hhe)
   have HSN:=Lib.hid (show areaL ((R.map (endsP p)).take (k+1))=areaL ((R.map (endsP p)).take k)+((endsP p v).1.x*(endsP p v).2.y - (endsP p v).2.x*(endsP p v).1.y) from by
    rw[take_snoc' (v:=endsP p v) (by rw[List.getElem?_map,hv];rfl),areaL_snoc])
   obtain⟨⟨PA,PB⟩,hep⟩: ∃x,x=endsP p v:=⟨_,rfl⟩
   rw[←hep] at HSN HEN
   have hia:inB PA=true:=by rw[show PA=(endsP p v).1 from by rw[←hep]];rw[endsP_line hhe];exact hpt.1
   have hib:inB PB=true:=by rw[show PB=(endsP p v).2 from by rw[←hep]];rw[endsP_line hhe];exact hpt.2.1
   have ha:=inB_iff.1 hia
   have hb:=inB_iff.1 hib
   have b1:=prod_bd ha.1 ha.2.1 hb.2.2.1 hb.2.2.2
   have b2:=prod_bd hb.1 hb.2.1 ha.2.2.1 ha.2.2.2
   obtain⟨X1,hX1⟩: ∃x,x=PA.x*PB.y:=⟨_,rfl⟩
   obtain⟨X2,hX2⟩: ∃x,x=PB.x*PA.y:=⟨_,rfl⟩
   have HSX:=Lib.hid (show areaL ((R.map (endsP p)).take (k+1))=areaL ((R.map (endsP p)).take k)+(X1 - X2) from by rw[HSN.out,hX1,hX2])
   have hmu:PA.x*PB.y=X1:=hX1.symm
   have hmv:PB.x*PA.y=X2:=hX2.symm
   rw[hmu] at b1
   rw[hmv] at b2
   have HXB:=Lib.hid (show -144115188075855872≤X1 - X2∧X1 - X2≤144115188075855872 from by omega)
   have q1:IntKind.i64.wrap X1=X1:=IntWalk.i64_in _ (by omega)
   have q2:IntKind.i64.wrap X2=X2:=IntWalk.i64_in _ (by omega)
   have q3:IntKind.i64.wrap (X1 - X2)=X1 - X2:=IntWalk.i64_in _ (by omega)
   have HNU:=fun W=>Lib.hid (r17num_any (X1 - X2) W (by omega) (by omega))
   generalize areaL ((R.map (endsP p)).take k)=s at HI HSX
   clear hv hcw hcell hhe hpt hep hia hib HSN hX1 hX2 ha hb
   go_wp2_with fail
   go_upto_region 7 with fail
   go_cut [7,8] (fun v9 v10 wx=> ∃g1 g2,v9= .pointer (some ⟨g1,0,none⟩)∧v10= .pointer (some ⟨g2,0,none⟩)∧wx.rowIs g1 42 2 (ptF PA)∧wx.rowIs g2 42 2 (ptF PB)∧g1≠g2∧wr.heap.size≤g1∧wr.heap.size≤g2∧Below wr.heap.size wr wx)
   case first=>
    have HY:=fun(w':World) (t:Below wr.heap.size wr w')=>Lib.hid (show w'.cell? ⟨w.heap.size,0,none⟩=some (.slice va vn vc)∧w'.cell? ⟨w.heap.size,1,none⟩=some (.slice ea en ec)∧w'.cell? ⟨rb,roff+k*2,none⟩=some (.int .i64 v.edge)∧w'.cell? ⟨rb,roff+k*2+1,none⟩=some (.bool v.back) from by
     exact⟨(t.cell (p:=⟨w.heap.size,_,none⟩) hs3).trans HPP.out.1,(t.cell (p:=⟨w.heap.size,_,none⟩) hs3).trans HPP.out.2,(t.cell (p:=⟨rb,_,none⟩) hrw).trans HCR.out.1,(t.cell (p:=⟨rb,_,none⟩) hrw).trans HCR.out.2⟩)
    have HS0:=Lib.hid (Below.refl wr.heap.size wr).drew
    refine wp_region_noPanic ?_
    refine wp_region_par3 12 12 (by kernel_rfl) (by kernel_rfl) (by simp) (by omega) (by kernel_rfl) (by kernel_rfl) (fun w':World=>Below wr.heap.size wr w') ?_
    refine par3_read (v:= ?_) 0 (by simp only[zga,zgb,zgc];rfl) (by kernel_rfl) (by rfl) HS0.out ?_ (fun _ _ _ h=>h) ?_
    rotate_left
    ·(intro w9 hSw;obtain⟨y0,y1,y2,y3⟩:=(HY w9 hSw).out;clear hSw;go_simp;try with_reducible rfl)
    simp only[Act.put,zpa,zpb,zpc]
    refine par3_move (v:= ?_) 1 (by simp only[zga,zgb,zgc];rfl) (by kernel_rfl) (by rfl) ?_ (fun _ _ _ h=>h) ?_
    rotate_left
    ·(intro w9;go_simp;try with_reducible rfl)
    simp only[Act.put,zpa,zpb,zpc]
    refine par3_move (v:= ?_) 2 (by simp only[zga,zgb,zgc];rfl) (by kernel_rfl) (by rfl) ?_ (fun _ _ _ h=>h) ?_
    rotate_left
    ·(intro w9;go_simp;try with_reducible rfl)
    simp only[Act.put,zpa,zpb,zpc]
    refine par3_move (v:= ?_) 3 (by simp only[zga,zgb,zgc];rfl) (by kernel_rfl) (by rfl) ?_ (fun _ _ _ h=>h) ?_
    rotate_left
    ·(intro w9;go_simp;try with_reducible rfl)
    simp only[Act.put,zpa,zpb,zpc]
    refine par3_read (v:= ?_) 4 (by simp only[zga,zgb,zgc];rfl) (by kernel_rfl) (by rfl) HS0.out ?_ (fun _ _ _ h=>h) ?_
    rotate_left
    ·(intro w9 hSw;obtain⟨y0,y1,y2,y3⟩:=(HY w9 hSw).out;clear hSw;go_simp;try with_reducible rfl)
    simp only[Act.put,zpa,zpb,zpc]
    refine par3_nm (fun W0 hW0=> ?_)
    rw[←hW0] at HS0
    clear hW0
    refine par3_three 5 9 10 (by simp only[zga,zgb,zgc];rfl) (by simp only[zga,zgb,zgc];rfl) (by simp only[zga,zgb,zgc];rfl) (by kernel_rfl) (by rfl) (by rfl) (by rfl) ?_ ?_ ?_
    ·refine owp_call (by go_simp;constructor<;>rfl) ?_
     refine(HEN _ (HX.out.trans (HS0.out.mono HX.out.size))).out.mono ?_
     rintro x W5 ⟨rfl,hb9⟩
     have HS5:=Lib.hid (below_next HS0.out HS0.out.size hb9)
     have HZ5:=Lib.hid hb9.size
     refine⟨_,rfl,fun s _=>HS5.out, ?_⟩
     simp only[Act.put,zpa,zpb,zpc]
     refine par3_move (v:= ?_) 6 (by simp only[zga,zgb,zgc];rfl) (by kernel_rfl) (by rfl) ?_ (fun _ _ _ h=>h) ?_
     rotate_left
     ·(intro w9;go_simp;try with_reducible rfl)
     simp only[Act.put,zpa,zpb,zpc]
     refine par3_move (v:= ?_) 7 (by simp only[zga,zgb,zgc];rfl) (by kernel_rfl) (by rfl) ?_ (fun _ _ _ h=>h) ?_
     rotate_left
     ·(intro w9;go_simp;try with_reducible rfl)
     simp only[Act.put,zpa,zpb,zpc]
     refine par3_move (v:= ?_) 8 (by simp only[zga,zgb,zgc];rfl) (by kernel_rfl) (by rfl) ?_ (fun _ _ _ h=>h) ?_
     rotate_left
     ·(intro w9;go_simp;try with_reducible rfl)
     simp only[Act.put,zpa,zpb,zpc]
     clear hb9
     refine par3_two 9 10 (by simp only[zga,zgb,zgc];rfl) (by simp only[zga,zgb,zgc];rfl) (by kernel_rfl) (by rfl) (by rfl) ?_ ?_
     ·refine owp_val (v:= ?_) (w1:= ?_) ?_ ?_
      rotate_left 2
      ·(go_simp;constructor<;>rfl)
      refine⟨fun s _=>s.alloc s.size _, ?_⟩
      simp only[Act.put,zpa,zpb,zpc]
      have HRA:=Lib.hid (show(W5.alloc (.cells #[.int .i64 0, .int .i64 0] 42)).rowIs W5.heap.size 42 2 (ptF ⟨0,0⟩) from World.rowIs_alloc W5 #[.int .i64 0, .int .i64 0] 42 (ptF ⟨0,0⟩) (ptF_get ⟨0,0⟩))
      have HSA:=Lib.hid (HS5.out.alloc HS5.out.size (.cells #[.int .i64 0, .int .i64 0] 42))
      have HZA:=Lib.hid (show W5.heap.size<(W5.alloc (.cells #[.int .i64 0, .int .i64 0] 42)).heap.size from by simp)
      refine par3_nm (fun WA hW9=> ?_)
      rw[←hW9] at HRA HSA HZA
      clear hW9
      refine par3_one 10 (by simp only[zga,zgb,zgc];rfl) (by kernel_rfl) (by rfl) ?_
      refine owp_val (v:= ?_) (w1:= ?_) ?_ ?_
      rotate_left 2
      ·(go_simp;constructor<;>rfl)
      refine⟨fun s _=>s.alloc s.size _, ?_⟩
      simp only[Act.put,zpa,zpb,zpc]
      have HRB:=Lib.hid (show(WA.alloc (.cells #[.int .i64 0, .int .i64 0] 42)).rowIs WA.heap.size 42 2 (ptF ⟨0,0⟩) from World.rowIs_alloc WA #[.int .i64 0, .int .i64 0] 42 (ptF ⟨0,0⟩) (ptF_get ⟨0,0⟩))
      have HSB:=Lib.hid (HSA.out.alloc HSA.out.size (.cells #[.int .i64 0, .int .i64 0] 42))
      have HZB:=Lib.hid (show WA.heap.size<(WA.alloc (.cells #[.int .i64 0, .int .i64 0] 42)).heap.size from by simp)
      have HRA2:=Lib.hid (World.rowIs.alloc HRA.out (.cells #[.int .i64 0, .int .i64 0] 42))
      refine par3_nm (fun WB hW9=> ?_)
      rw[←hW9] at HRB HSB HZB HRA2
      clear hW9
      have hne0:W5.heap.size≠WA.heap.size:=by have:=HZA.out;omega
      have hl10:wr.heap.size≤W5.heap.size:=HS5.out.size
      have hl20:wr.heap.size≤WA.heap.size:=HSA.out.size
      obtain⟨g1,hg1⟩: ∃g,g=W5.heap.size:=⟨_,rfl⟩
      obtain⟨g2,hg2⟩: ∃g,g=WA.heap.size:=⟨_,rfl⟩
      have hne:g1≠g2:=by rw[hg1,hg2];exact hne0
      have hl1:wr.heap.size≤g1:=by rw[hg1];exact hl10
      have hl2:wr.heap.size≤g2:=by rw[hg2];exact hl20
      rw[←hg1] at HRA2 ⊢
      rw[←hg2] at HRB ⊢
      clear hg1 hg2 hne0 hl10 hl20
      have f0:=World.rowIs.frozen HRA2.out 0
      have f1:=World.rowIs.frozen HRA2.out 1
      have p0:=World.rowIs.cell HRA2.out (i:=0) (by decide)
      have p1:=World.rowIs.cell HRA2.out (i:=1) (by decide)
      refine par3_one 11 (by simp only[zga,zgb,zgc];rfl) (by kernel_rfl) (by rfl) ?_
      refine owp_skip (w1:= ?_) ?_ ?_
      rotate_left
      ·(go_simp;first|rfl|(constructor<;>rfl))
      refine⟨fun s _=>(s.setCell hl1 _).setCell hl1 _, ?_⟩
      simp only[Act.put,zpa,zpb,zpc]
      clear f0 f1 p0 p1
      have hh2:=rowIs_touch (F:=[g1]) HRB.out (((Touch.refl [g1] WB).setCell (p:=⟨g1,0,none⟩) (.inl (by simp)) (.int .i64 PA.x)).setCell (p:=⟨g1,1,none⟩) (.inl (by simp)) (.int .i64 PA.y)) (by simp;omega)
      have hh1:=World.rowIs.congr (g:=ptF PA) (World.rowIs.set (World.rowIs.set HRA2.out 0 (.int .i64 PA.x)) 1 (.int .i64 PA.y)) (fun i hi=>by rcases i with _|_|i<;>first|rfl|exact absurd hi (by omega))
      have hs1:=(HSB.out.setCell (p:=⟨g1,0,none⟩) hl1 (.int .i64 PA.x)).setCell (p:=⟨g1,1,none⟩) hl1 (.int .i64 PA.y)
      refine par3_nm (fun Wz hW9=> ?_)
      rw[←hW9] at hh1 hh2 hs1
      clear hW9
      have HH1:=Lib.hid hh1
      have HH2:=Lib.hid hh2
      have HSZ:=Lib.hid hs1
      clear hh1 hh2 hs1
      have f0:=World.rowIs.frozen HH2.out 0
      have f1:=World.rowIs.frozen HH2.out 1
      have p0:=World.rowIs.cell HH2.out (i:=0) (by decide)
      have p1:=World.rowIs.cell HH2.out (i:=1) (by decide)
      refine par3_tail _ (by simp only[List.drop_succ_cons,List.drop_zero];rfl) (by kernel_rfl) ?_
      go_wp2_with fail
      refine NoPanic.normal ?_
      go_step
      first|go_meet|(go_step;go_meet)
      refine⟨g1,g2,rfl,rfl,rowIs_touch (F:=[g2]) HH1.out (((Touch.refl _ _).setCell (.inl (by simp)) _).setCell (.inl (by simp)) _) (by simp;omega),World.rowIs.congr (World.rowIs.set (World.rowIs.set HH2.out 0 _) 1 _) (fun i hi=>by rcases i with _|_|i<;>first|rfl|exact absurd hi (by omega)),hne,hl1,hl2,(HSZ.out.setCell hl2 _).setCell hl2 _⟩
     ·refine owp_val (v:= ?_) (w1:= ?_) ?_ ?_
      rotate_left 2
      ·(go_simp;constructor<;>rfl)
      refine⟨fun s _=>s.alloc s.size _, ?_⟩
      simp only[Act.put,zpa,zpb,zpc]
      have HRA:=Lib.hid (show(W5.alloc (.cells #[.int .i64 0, .int .i64 0] 42)).rowIs W5.heap.size 42 2 (ptF ⟨0,0⟩) from World.rowIs_alloc W5 #[.int .i64 0, .int .i64 0] 42 (ptF ⟨0,0⟩) (ptF_get ⟨0,0⟩))
      have HSA:=Lib.hid (HS5.out.alloc HS5.out.size (.cells #[.int .i64 0, .int .i64 0] 42))
      have HZA:=Lib.hid (show W5.heap.size<(W5.alloc (.cells #[.int .i64 0, .int .i64 0] 42)).heap.size from by simp)
      refine par3_nm (fun WA hW9=> ?_)
      rw[←hW9] at HRA HSA HZA
      clear hW9
      refine par3_one 9 (by simp only[zga,zgb,zgc];rfl) (by kernel_rfl) (by rfl) ?_
      refine owp_val (v:= ?_) (w1:= ?_) ?_ ?_
      rotate_left 2
      ·(go_simp;constructor<;>rfl)
      refine⟨fun s _=>s.alloc s.size _, ?_⟩
      simp only[Act.put,zpa,zpb,zpc]
      have HRB:=Lib.hid (show(WA.alloc (.cells #[.int .i64 0, .int .i64 0] 42)).rowIs WA.heap.size 42 2 (ptF ⟨0,0⟩) from World.rowIs_alloc WA #[.int .i64 0, .int .i64 0] 42 (ptF ⟨0,0⟩) (ptF_get ⟨0,0⟩))
      have HSB:=Lib.hid (HSA.out.alloc HSA.out.size (.cells #[.int .i64 0, .int .i64 0] 42))
      have HZB:=Lib.hid (show WA.heap.size<(WA.alloc (.cells #[.int .i64 0, .int .i64 0] 42)).heap.size from by simp)
      have HRA2:=Lib.hid (World.rowIs.alloc HRA.out (.cells #[.int .i64 0, .int .i64 0] 42))
      refine par3_nm (fun WB hW9=> ?_)
      rw[←hW9] at HRB HSB HZB HRA2
      clear hW9
      have hne0:WA.heap.size≠W5.heap.size:=by have:=HZA.out;omega
      have hl10:wr.heap.size≤WA.heap.size:=HSA.out.size
      have hl20:wr.heap.size≤W5.heap.size:=HS5.out.size
      obtain⟨g1,hg1⟩: ∃g,g=WA.heap.size:=⟨_,rfl⟩
      obtain⟨g2,hg2⟩: ∃g,g=W5.heap.size:=⟨_,rfl⟩
      have hne:g1≠g2:=by rw[hg1,hg2];exact hne0
      have hl1:wr.heap.size≤g1:=by rw[hg1];exact hl10
      have hl2:wr.heap.size≤g2:=by rw[hg2];exact hl20
      rw[←hg1] at HRB ⊢
      rw[←hg2] at HRA2 ⊢
      clear hg1 hg2 hne0 hl10 hl20
      have f0:=World.rowIs.frozen HRB.out 0
      have f1:=World.rowIs.frozen HRB.out 1
      have p0:=World.rowIs.cell HRB.out (i:=0) (by decide)
      have p1:=World.rowIs.cell HRB.out (i:=1) (by decide)
      refine par3_one 11 (by simp only[zga,zgb,zgc];rfl) (by kernel_rfl) (by rfl) ?_
      refine owp_skip (w1:= ?_) ?_ ?_
      rotate_left
      ·(go_simp;first|rfl|(constructor<;>rfl))
      refine⟨fun s _=>(s.setCell hl1 _).setCell hl1 _, ?_⟩
      simp only[Act.put,zpa,zpb,zpc]
      clear f0 f1 p0 p1
      have hh2:=rowIs_touch (F:=[g1]) HRA2.out (((Touch.refl [g1] WB).setCell (p:=⟨g1,0,none⟩) (.inl (by simp)) (.int .i64 PA.x)).setCell (p:=⟨g1,1,none⟩) (.inl (by simp)) (.int .i64 PA.y)) (by simp;omega)
      have hh1:=World.rowIs.congr (g:=ptF PA) (World.rowIs.set (World.rowIs.set HRB.out 0 (.int .i64 PA.x)) 1 (.int .i64 PA.y)) (fun i hi=>by rcases i with _|_|i<;>first|rfl|exact absurd hi (by omega))
      have hs1:=(HSB.out.setCell (p:=⟨g1,0,none⟩) hl1 (.int .i64 PA.x)).setCell (p:=⟨g1,1,none⟩) hl1 (.int .i64 PA.y)
      refine par3_nm (fun Wz hW9=> ?_)
      rw[←hW9] at hh1 hh2 hs1
      clear hW9
      have HH1:=Lib.hid hh1
      have HH2:=Lib.hid hh2
      have HSZ:=Lib.hid hs1
      clear hh1 hh2 hs1
      have f0:=World.rowIs.frozen HH2.out 0
      have f1:=World.rowIs.frozen HH2.out 1
      have p0:=World.rowIs.cell HH2.out (i:=0) (by decide)
      have p1:=World.rowIs.cell HH2.out (i:=1) (by decide)
      refine par3_tail _ (by simp only[List.drop_succ_cons,List.drop_zero];rfl) (by kernel_rfl) ?_
      go_wp2_with fail
      refine NoPanic.normal ?_
      go_step
      first|go_meet|(go_step;go_meet)
      refine⟨g1,g2,rfl,rfl,rowIs_touch (F:=[g2]) HH1.out (((Touch.refl _ _).setCell (.inl (by simp)) _).setCell (.inl (by simp)) _) (by simp;omega),World.rowIs.congr (World.rowIs.set (World.rowIs.set HH2.out 0 _) 1 _) (fun i hi=>by rcases i with _|_|i<;>first|rfl|exact absurd hi (by omega)),hne,hl1,hl2,(HSZ.out.setCell hl2 _).setCell hl2 _⟩
    ·refine owp_val (v:= ?_) (w1:= ?_) ?_ ?_
     rotate_left 2
     ·(go_simp;constructor<;>rfl)
     refine⟨fun s _=>s.alloc s.size _, ?_⟩
     simp only[Act.put,zpa,zpb,zpc]
     have HRA:=Lib.hid (show(W0.alloc (.cells #[.int .i64 0, .int .i64 0] 42)).rowIs W0.heap.size 42 2 (ptF ⟨0,0⟩) from World.rowIs_alloc W0 #[.int .i64 0, .int .i64 0] 42 (ptF ⟨0,0⟩) (ptF_get ⟨0,0⟩))
     have HSA:=Lib.hid (HS0.out.alloc HS0.out.size (.cells #[.int .i64 0, .int .i64 0] 42))
     have HZA:=Lib.hid (show W0.heap.size<(W0.alloc (.cells #[.int .i64 0, .int .i64 0] 42)).heap.size from by simp)
     refine par3_nm (fun WA hW9=> ?_)
     rw[←hW9] at HRA HSA HZA
     clear hW9
     refine par3_two 5 10 (by simp only[zga,zgb,zgc];rfl) (by simp only[zga,zgb,zgc];rfl) (by kernel_rfl) (by rfl) (by rfl) ?_ ?_
     ·refine owp_call (by go_simp;constructor<;>rfl) ?_
      refine(HEN _ (HX.out.trans (HSA.out.mono HX.out.size))).out.mono ?_
      rintro x W5 ⟨rfl,hb9⟩
      have HS5:=Lib.hid (below_next HSA.out HSA.out.size hb9)
      have HZ5:=Lib.hid hb9.size
      refine⟨_,rfl,fun s _=>HS5.out, ?_⟩
      simp only[Act.put,zpa,zpb,zpc]
      refine par3_move (v:= ?_) 6 (by simp only[zga,zgb,zgc];rfl) (by kernel_rfl) (by rfl) ?_ (fun _ _ _ h=>h) ?_
      rotate_left
      ·(intro w9;go_simp;try with_reducible rfl)
      simp only[Act.put,zpa,zpb,zpc]
      refine par3_move (v:= ?_) 7 (by simp only[zga,zgb,zgc];rfl) (by kernel_rfl) (by rfl) ?_ (fun _ _ _ h=>h) ?_
      rotate_left
      ·(intro w9;go_simp;try with_reducible rfl)
      simp only[Act.put,zpa,zpb,zpc]
      refine par3_move (v:= ?_) 8 (by simp only[zga,zgb,zgc];rfl) (by kernel_rfl) (by rfl) ?_ (fun _ _ _ h=>h) ?_
      rotate_left
      ·(intro w9;go_simp;try with_reducible rfl)
      simp only[Act.put,zpa,zpb,zpc]
      have HRC:=Lib.hid (rowIs_touch HRA.out (Touch.of_below (F:=[]) hb9) (by simp))
      clear hb9
      refine par3_one 10 (by simp only[zga,zgb,zgc];rfl) (by kernel_rfl) (by rfl) ?_
      refine owp_val (v:= ?_) (w1:= ?_) ?_ ?_
      rotate_left 2
      ·(go_simp;constructor<;>rfl)
      refine⟨fun s _=>s.alloc s.size _, ?_⟩
      simp only[Act.put,zpa,zpb,zpc]
      have HRB:=Lib.hid (show(W5.alloc (.cells #[.int .i64 0, .int .i64 0] 42)).rowIs W5.heap.size 42 2 (ptF ⟨0,0⟩) from World.rowIs_alloc W5 #[.int .i64 0, .int .i64 0] 42 (ptF ⟨0,0⟩) (ptF_get ⟨0,0⟩))
      have HSB:=Lib.hid (HS5.out.alloc HS5.out.size (.cells #[.int .i64 0, .int .i64 0] 42))
      have HZB:=Lib.hid (show W5.heap.size<(W5.alloc (.cells #[.int .i64 0, .int .i64 0] 42)).heap.size from by simp)
      have HRA2:=Lib.hid (World.rowIs.alloc HRC.out (.cells #[.int .i64 0, .int .i64 0] 42))
      refine par3_nm (fun WB hW9=> ?_)
      rw[←hW9] at HRB HSB HZB HRA2
      clear hW9
      have hne0:W0.heap.size≠W5.heap.size:=by have:=HZA.out;have:=HZ5.out;omega
      have hl10:wr.heap.size≤W0.heap.size:=HS0.out.size
      have hl20:wr.heap.size≤W5.heap.size:=HS5.out.size
      obtain⟨g1,hg1⟩: ∃g,g=W0.heap.size:=⟨_,rfl⟩
      obtain⟨g2,hg2⟩: ∃g,g=W5.heap.size:=⟨_,rfl⟩
      have hne:g1≠g2:=by rw[hg1,hg2];exact hne0
      have hl1:wr.heap.size≤g1:=by rw[hg1];exact hl10
      have hl2:wr.heap.size≤g2:=by rw[hg2];exact hl20
      rw[←hg1] at HRA2 ⊢
      rw[←hg2] at HRB ⊢
      clear hg1 hg2 hne0 hl10 hl20
      have f0:=World.rowIs.frozen HRA2.out 0
      have f1:=World.rowIs.frozen HRA2.out 1
      have p0:=World.rowIs.cell HRA2.out (i:=0) (by decide)
      have p1:=World.rowIs.cell HRA2.out (i:=1) (by decide)
      refine par3_one 11 (by simp only[zga,zgb,zgc];rfl) (by kernel_rfl) (by rfl) ?_
      refine owp_skip (w1:= ?_) ?_ ?_
      rotate_left
      ·(go_simp;first|rfl|(constructor<;>rfl))
      refine⟨fun s _=>(s.setCell hl1 _).setCell hl1 _, ?_⟩
      simp only[Act.put,zpa,zpb,zpc]
      clear f0 f1 p0 p1
      have hh2:=rowIs_touch (F:=[g1]) HRB.out (((Touch.refl [g1] WB).setCell (p:=⟨g1,0,none⟩) (.inl (by simp)) (.int .i64 PA.x)).setCell (p:=⟨g1,1,none⟩) (.inl (by simp)) (.int .i64 PA.y)) (by simp;omega)
      have hh1:=World.rowIs.congr (g:=ptF PA) (World.rowIs.set (World.rowIs.set HRA2.out 0 (.int .i64 PA.x)) 1 (.int .i64 PA.y)) (fun i hi=>by rcases i with _|_|i<;>first|rfl|exact absurd hi (by omega))
      have hs1:=(HSB.out.setCell (p:=⟨g1,0,none⟩) hl1 (.int .i64 PA.x)).setCell (p:=⟨g1,1,none⟩) hl1 (.int .i64 PA.y)
      refine par3_nm (fun Wz hW9=> ?_)
      rw[←hW9] at hh1 hh2 hs1
      clear hW9
      have HH1:=Lib.hid hh1
      have HH2:=Lib.hid hh2
      have HSZ:=Lib.hid hs1
      clear hh1 hh2 hs1
      have f0:=World.rowIs.frozen HH2.out 0
      have f1:=World.rowIs.frozen HH2.out 1
      have p0:=World.rowIs.cell HH2.out (i:=0) (by decide)
      have p1:=World.rowIs.cell HH2.out (i:=1) (by decide)
      refine par3_tail _ (by simp only[List.drop_succ_cons,List.drop_zero];rfl) (by kernel_rfl) ?_
      go_wp2_with fail
      refine NoPanic.normal ?_
      go_step
      first|go_meet|(go_step;go_meet)
      refine⟨g1,g2,rfl,rfl,rowIs_touch (F:=[g2]) HH1.out (((Touch.refl _ _).setCell (.inl (by simp)) _).setCell (.inl (by simp)) _) (by simp;omega),World.rowIs.congr (World.rowIs.set (World.rowIs.set HH2.out 0 _) 1 _) (fun i hi=>by rcases i with _|_|i<;>first|rfl|exact absurd hi (by omega)),hne,hl1,hl2,(HSZ.out.setCell hl2 _).setCell hl2 _⟩
     ·refine owp_val (v:= ?_) (w1:= ?_) ?_ ?_
      rotate_left 2
      ·(go_simp;constructor<;>rfl)
      refine⟨fun s _=>s.alloc s.size _, ?_⟩
      simp only[Act.put,zpa,zpb,zpc]
      have HRB:=Lib.hid (show(WA.alloc (.cells #[.int .i64 0, .int .i64 0] 42)).rowIs WA.heap.size 42 2 (ptF ⟨0,0⟩) from World.rowIs_alloc WA #[.int .i64 0, .int .i64 0] 42 (ptF ⟨0,0⟩) (ptF_get ⟨0,0⟩))
      have HSB:=Lib.hid (HSA.out.alloc HSA.out.size (.cells #[.int .i64 0, .int .i64 0] 42))
      have HZB:=Lib.hid (show WA.heap.size<(WA.alloc (.cells #[.int .i64 0, .int .i64 0] 42)).heap.size from by simp)
      have HRA2:=Lib.hid (World.rowIs.alloc HRA.out (.cells #[.int .i64 0, .int .i64 0] 42))
      refine par3_nm (fun WB hW9=> ?_)
      rw[←hW9] at HRB HSB HZB HRA2
      clear hW9
      refine par3_one 5 (by simp only[zga,zgb,zgc];rfl) (by kernel_rfl) (by rfl) ?_
      refine owp_call (by go_simp;constructor<;>rfl) ?_
      refine(HEN _ (HX.out.trans (HSB.out.mono HX.out.size))).out.mono ?_
      rintro x W5 ⟨rfl,hb9⟩
      have HS5:=Lib.hid (below_next HSB.out HSB.out.size hb9)
      have HZ5:=Lib.hid hb9.size
      refine⟨_,rfl,fun s _=>HS5.out, ?_⟩
      simp only[Act.put,zpa,zpb,zpc]
      refine par3_move (v:= ?_) 6 (by simp only[zga,zgb,zgc];rfl) (by kernel_rfl) (by rfl) ?_ (fun _ _ _ h=>h) ?_
      rotate_left
      ·(intro w9;go_simp;try with_reducible rfl)
      simp only[Act.put,zpa,zpb,zpc]
      refine par3_move (v:= ?_) 7 (by simp only[zga,zgb,zgc];rfl) (by kernel_rfl) (by rfl) ?_ (fun _ _ _ h=>h) ?_
      rotate_left
      ·(intro w9;go_simp;try with_reducible rfl)
      simp only[Act.put,zpa,zpb,zpc]
      refine par3_move (v:= ?_) 8 (by simp only[zga,zgb,zgc];rfl) (by kernel_rfl) (by rfl) ?_ (fun _ _ _ h=>h) ?_
      rotate_left
      ·(intro w9;go_simp;try with_reducible rfl)
      simp only[Act.put,zpa,zpb,zpc]
      have HRA3:=Lib.hid (rowIs_touch HRA2.out (Touch.of_below (F:=[]) hb9) (by simp))
      have HRB3:=Lib.hid (rowIs_touch HRB.out (Touch.of_below (F:=[]) hb9) (by simp))
      clear hb9
      have hne0:W0.heap.size≠WA.heap.size:=by have:=HZA.out;omega
      have hl10:wr.heap.size≤W0.heap.size:=HS0.out.size
      have hl20:wr.heap.size≤WA.heap.size:=HSA.out.size
      obtain⟨g1,hg1⟩: ∃g,g=W0.heap.size:=⟨_,rfl⟩
      obtain⟨g2,hg2⟩: ∃g,g=WA.heap.size:=⟨_,rfl⟩
      have hne:g1≠g2:=by rw[hg1,hg2];exact hne0
      have hl1:wr.heap.size≤g1:=by rw[hg1];exact hl10
      have hl2:wr.heap.size≤g2:=by rw[hg2];exact hl20
      rw[←hg1] at HRA3 ⊢
      rw[←hg2] at HRB3 ⊢
      clear hg1 hg2 hne0 hl10 hl20
      have f0:=World.rowIs.frozen HRA3.out 0
      have f1:=World.rowIs.frozen HRA3.out 1
      have p0:=World.rowIs.cell HRA3.out (i:=0) (by decide)
      have p1:=World.rowIs.cell HRA3.out (i:=1) (by decide)
      refine par3_one 11 (by simp only[zga,zgb,zgc];rfl) (by kernel_rfl) (by rfl) ?_
      refine owp_skip (w1:= ?_) ?_ ?_
      rotate_left
      ·(go_simp;first|rfl|(constructor<;>rfl))
      refine⟨fun s _=>(s.setCell hl1 _).setCell hl1 _, ?_⟩
      simp only[Act.put,zpa,zpb,zpc]
      clear f0 f1 p0 p1
      have hh2:=rowIs_touch (F:=[g1]) HRB3.out (((Touch.refl [g1] W5).setCell (p:=⟨g1,0,none⟩) (.inl (by simp)) (.int .i64 PA.x)).setCell (p:=⟨g1,1,none⟩) (.inl (by simp)) (.int .i64 PA.y)) (by simp;omega)
      have hh1:=World.rowIs.congr (g:=ptF PA) (World.rowIs.set (World.rowIs.set HRA3.out 0 (.int .i64 PA.x)) 1 (.int .i64 PA.y)) (fun i hi=>by rcases i with _|_|i<;>first|rfl|exact absurd hi (by omega))
      have hs1:=(HS5.out.setCell (p:=⟨g1,0,none⟩) hl1 (.int .i64 PA.x)).setCell (p:=⟨g1,1,none⟩) hl1 (.int .i64 PA.y)
      refine par3_nm (fun Wz hW9=> ?_)
      rw[←hW9] at hh1 hh2 hs1
      clear hW9
      have HH1:=Lib.hid hh1
      have HH2:=Lib.hid hh2
      have HSZ:=Lib.hid hs1
      clear hh1 hh2 hs1
      have f0:=World.rowIs.frozen HH2.out 0
      have f1:=World.rowIs.frozen HH2.out 1
      have p0:=World.rowIs.cell HH2.out (i:=0) (by decide)
      have p1:=World.rowIs.cell HH2.out (i:=1) (by decide)
      refine par3_tail _ (by simp only[List.drop_succ_cons,List.drop_zero];rfl) (by kernel_rfl) ?_
      go_wp2_with fail
      refine NoPanic.normal ?_
      go_step
      first|go_meet|(go_step;go_meet)
      refine⟨g1,g2,rfl,rfl,rowIs_touch (F:=[g2]) HH1.out (((Touch.refl _ _).setCell (.inl (by simp)) _).setCell (.inl (by simp)) _) (by simp;omega),World.rowIs.congr (World.rowIs.set (World.rowIs.set HH2.out 0 _) 1 _) (fun i hi=>by rcases i with _|_|i<;>first|rfl|exact absurd hi (by omega)),hne,hl1,hl2,(HSZ.out.setCell hl2 _).setCell hl2 _⟩
    ·refine owp_val (v:= ?_) (w1:= ?_) ?_ ?_
     rotate_left 2
     ·(go_simp;constructor<;>rfl)
     refine⟨fun s _=>s.alloc s.size _, ?_⟩
     simp only[Act.put,zpa,zpb,zpc]
     have HRA:=Lib.hid (show(W0.alloc (.cells #[.int .i64 0, .int .i64 0] 42)).rowIs W0.heap.size 42 2 (ptF ⟨0,0⟩) from World.rowIs_alloc W0 #[.int .i64 0, .int .i64 0] 42 (ptF ⟨0,0⟩) (ptF_get ⟨0,0⟩))
     have HSA:=Lib.hid (HS0.out.alloc HS0.out.size (.cells #[.int .i64 0, .int .i64 0] 42))
     have HZA:=Lib.hid (show W0.heap.size<(W0.alloc (.cells #[.int .i64 0, .int .i64 0] 42)).heap.size from by simp)
     refine par3_nm (fun WA hW9=> ?_)
     rw[←hW9] at HRA HSA HZA
     clear hW9
     refine par3_two 5 9 (by simp only[zga,zgb,zgc];rfl) (by simp only[zga,zgb,zgc];rfl) (by kernel_rfl) (by rfl) (by rfl) ?_ ?_
     ·refine owp_call (by go_simp;constructor<;>rfl) ?_
      refine(HEN _ (HX.out.trans (HSA.out.mono HX.out.size))).out.mono ?_
      rintro x W5 ⟨rfl,hb9⟩
      have HS5:=Lib.hid (below_next HSA.out HSA.out.size hb9)
      have HZ5:=Lib.hid hb9.size
      refine⟨_,rfl,fun s _=>HS5.out, ?_⟩
      simp only[Act.put,zpa,zpb,zpc]
      refine par3_move (v:= ?_) 6 (by simp only[zga,zgb,zgc];rfl) (by kernel_rfl) (by rfl) ?_ (fun _ _ _ h=>h) ?_
      rotate_left
      ·(intro w9;go_simp;try with_reducible rfl)
      simp only[Act.put,zpa,zpb,zpc]
      refine par3_move (v:= ?_) 7 (by simp only[zga,zgb,zgc];rfl) (by kernel_rfl) (by rfl) ?_ (fun _ _ _ h=>h) ?_
      rotate_left
      ·(intro w9;go_simp;try with_reducible rfl)
      simp only[Act.put,zpa,zpb,zpc]
      refine par3_move (v:= ?_) 8 (by simp only[zga,zgb,zgc];rfl) (by kernel_rfl) (by rfl) ?_ (fun _ _ _ h=>h) ?_
      rotate_left
      ·(intro w9;go_simp;try with_reducible rfl)
      simp only[Act.put,zpa,zpb,zpc]
      have HRC:=Lib.hid (rowIs_touch HRA.out (Touch.of_below (F:=[]) hb9) (by simp))
      clear hb9
      refine par3_one 9 (by simp only[zga,zgb,zgc];rfl) (by kernel_rfl) (by rfl) ?_
      refine owp_val (v:= ?_) (w1:= ?_) ?_ ?_
      rotate_left 2
      ·(go_simp;constructor<;>rfl)
      refine⟨fun s _=>s.alloc s.size _, ?_⟩
      simp only[Act.put,zpa,zpb,zpc]
      have HRB:=Lib.hid (show(W5.alloc (.cells #[.int .i64 0, .int .i64 0] 42)).rowIs W5.heap.size 42 2 (ptF ⟨0,0⟩) from World.rowIs_alloc W5 #[.int .i64 0, .int .i64 0] 42 (ptF ⟨0,0⟩) (ptF_get ⟨0,0⟩))
      have HSB:=Lib.hid (HS5.out.alloc HS5.out.size (.cells #[.int .i64 0, .int .i64 0] 42))
      have HZB:=Lib.hid (show W5.heap.size<(W5.alloc (.cells #[.int .i64 0, .int .i64 0] 42)).heap.size from by simp)
      have HRA2:=Lib.hid (World.rowIs.alloc HRC.out (.cells #[.int .i64 0, .int .i64 0] 42))
      refine par3_nm (fun WB hW9=> ?_)
      rw[←hW9] at HRB HSB HZB HRA2
      clear hW9
      have hne0:W5.heap.size≠W0.heap.size:=by have:=HZA.out;have:=HZ5.out;omega
      have hl10:wr.heap.size≤W5.heap.size:=HS5.out.size
      have hl20:wr.heap.size≤W0.heap.size:=HS0.out.size
      obtain⟨g1,hg1⟩: ∃g,g=W5.heap.size:=⟨_,rfl⟩
      obtain⟨g2,hg2⟩: ∃g,g=W0.heap.size:=⟨_,rfl⟩
      have hne:g1≠g2:=by rw[hg1,hg2];exact hne0
      have hl1:wr.heap.size≤g1:=by rw[hg1];exact hl10
      have hl2:wr.heap.size≤g2:=by rw[hg2];exact hl20
      rw[←hg1] at HRB ⊢
      rw[←hg2] at HRA2 ⊢
      clear hg1 hg2 hne0 hl10 hl20
      have f0:=World.rowIs.frozen HRB.out 0
      have f1:=World.rowIs.frozen HRB.out 1
      have p0:=World.rowIs.cell HRB.out (i:=0) (by decide)
      have p1:=World.rowIs.cell HRB.out (i:=1) (by decide)
      refine par3_one 11 (by simp only[zga,zgb,zgc];rfl) (by kernel_rfl) (by rfl) ?_
      refine owp_skip (w1:= ?_) ?_ ?_
      rotate_left
      ·(go_simp;first|rfl|(constructor<;>rfl))
      refine⟨fun s _=>(s.setCell hl1 _).setCell hl1 _, ?_⟩
      simp only[Act.put,zpa,zpb,zpc]
      clear f0 f1 p0 p1
      have hh2:=rowIs_touch (F:=[g1]) HRA2.out (((Touch.refl [g1] WB).setCell (p:=⟨g1,0,none⟩) (.inl (by simp)) (.int .i64 PA.x)).setCell (p:=⟨g1,1,none⟩) (.inl (by simp)) (.int .i64 PA.y)) (by simp;omega)
      have hh1:=World.rowIs.congr (g:=ptF PA) (World.rowIs.set (World.rowIs.set HRB.out 0 (.int .i64 PA.x)) 1 (.int .i64 PA.y)) (fun i hi=>by rcases i with _|_|i<;>first|rfl|exact absurd hi (by omega))
      have hs1:=(HSB.out.setCell (p:=⟨g1,0,none⟩) hl1 (.int .i64 PA.x)).setCell (p:=⟨g1,1,none⟩) hl1 (.int .i64 PA.y)
      refine par3_nm (fun Wz hW9=> ?_)
      rw[←hW9] at hh1 hh2 hs1
      clear hW9
      have HH1:=Lib.hid hh1
      have HH2:=Lib.hid hh2
      have HSZ:=Lib.hid hs1
      clear hh1 hh2 hs1
      have f0:=World.rowIs.frozen HH2.out 0
      have f1:=World.rowIs.frozen HH2.out 1
      have p0:=World.rowIs.cell HH2.out (i:=0) (by decide)
      have p1:=World.rowIs.cell HH2.out (i:=1) (by decide)
      refine par3_tail _ (by simp only[List.drop_succ_cons,List.drop_zero];rfl) (by kernel_rfl) ?_
      go_wp2_with fail
      refine NoPanic.normal ?_
      go_step
      first|go_meet|(go_step;go_meet)
      refine⟨g1,g2,rfl,rfl,rowIs_touch (F:=[g2]) HH1.out (((Touch.refl _ _).setCell (.inl (by simp)) _).setCell (.inl (by simp)) _) (by simp;omega),World.rowIs.congr (World.rowIs.set (World.rowIs.set HH2.out 0 _) 1 _) (fun i hi=>by rcases i with _|_|i<;>first|rfl|exact absurd hi (by omega)),hne,hl1,hl2,(HSZ.out.setCell hl2 _).setCell hl2 _⟩
     ·refine owp_val (v:= ?_) (w1:= ?_) ?_ ?_
      rotate_left 2
      ·(go_simp;constructor<;>rfl)
      refine⟨fun s _=>s.alloc s.size _, ?_⟩
      simp only[Act.put,zpa,zpb,zpc]
      have HRB:=Lib.hid (show(WA.alloc (.cells #[.int .i64 0, .int .i64 0] 42)).rowIs WA.heap.size 42 2 (ptF ⟨0,0⟩) from World.rowIs_alloc WA #[.int .i64 0, .int .i64 0] 42 (ptF ⟨0,0⟩) (ptF_get ⟨0,0⟩))
      have HSB:=Lib.hid (HSA.out.alloc HSA.out.size (.cells #[.int .i64 0, .int .i64 0] 42))
      have HZB:=Lib.hid (show WA.heap.size<(WA.alloc (.cells #[.int .i64 0, .int .i64 0] 42)).heap.size from by simp)
      have HRA2:=Lib.hid (World.rowIs.alloc HRA.out (.cells #[.int .i64 0, .int .i64 0] 42))
      refine par3_nm (fun WB hW9=> ?_)
      rw[←hW9] at HRB HSB HZB HRA2
      clear hW9
      refine par3_one 5 (by simp only[zga,zgb,zgc];rfl) (by kernel_rfl) (by rfl) ?_
      refine owp_call (by go_simp;constructor<;>rfl) ?_
      refine(HEN _ (HX.out.trans (HSB.out.mono HX.out.size))).out.mono ?_
      rintro x W5 ⟨rfl,hb9⟩
      have HS5:=Lib.hid (below_next HSB.out HSB.out.size hb9)
      have HZ5:=Lib.hid hb9.size
      refine⟨_,rfl,fun s _=>HS5.out, ?_⟩
      simp only[Act.put,zpa,zpb,zpc]
      refine par3_move (v:= ?_) 6 (by simp only[zga,zgb,zgc];rfl) (by kernel_rfl) (by rfl) ?_ (fun _ _ _ h=>h) ?_
      rotate_left
      ·(intro w9;go_simp;try with_reducible rfl)
      simp only[Act.put,zpa,zpb,zpc]
      refine par3_move (v:= ?_) 7 (by simp only[zga,zgb,zgc];rfl) (by kernel_rfl) (by rfl) ?_ (fun _ _ _ h=>h) ?_
      rotate_left
      ·(intro w9;go_simp;try with_reducible rfl)
      simp only[Act.put,zpa,zpb,zpc]
      refine par3_move (v:= ?_) 8 (by simp only[zga,zgb,zgc];rfl) (by kernel_rfl) (by rfl) ?_ (fun _ _ _ h=>h) ?_
      rotate_left
      ·(intro w9;go_simp;try with_reducible rfl)
      simp only[Act.put,zpa,zpb,zpc]
      have HRA3:=Lib.hid (rowIs_touch HRA2.out (Touch.of_below (F:=[]) hb9) (by simp))
      have HRB3:=Lib.hid (rowIs_touch HRB.out (Touch.of_below (F:=[]) hb9) (by simp))
      clear hb9
      have hne0:WA.heap.size≠W0.heap.size:=by have:=HZA.out;omega
      have hl10:wr.heap.size≤WA.heap.size:=HSA.out.size
      have hl20:wr.heap.size≤W0.heap.size:=HS0.out.size
      obtain⟨g1,hg1⟩: ∃g,g=WA.heap.size:=⟨_,rfl⟩
      obtain⟨g2,hg2⟩: ∃g,g=W0.heap.size:=⟨_,rfl⟩
      have hne:g1≠g2:=by rw[hg1,hg2];exact hne0
      have hl1:wr.heap.size≤g1:=by rw[hg1];exact hl10
      have hl2:wr.heap.size≤g2:=by rw[hg2];exact hl20
      rw[←hg1] at HRB3 ⊢
      rw[←hg2] at HRA3 ⊢
      clear hg1 hg2 hne0 hl10 hl20
      have f0:=World.rowIs.frozen HRB3.out 0
      have f1:=World.rowIs.frozen HRB3.out 1
      have p0:=World.rowIs.cell HRB3.out (i:=0) (by decide)
      have p1:=World.rowIs.cell HRB3.out (i:=1) (by decide)
      refine par3_one 11 (by simp only[zga,zgb,zgc];rfl) (by kernel_rfl) (by rfl) ?_
      refine owp_skip (w1:= ?_) ?_ ?_
      rotate_left
      ·(go_simp;first|rfl|(constructor<;>rfl))
      refine⟨fun s _=>(s.setCell hl1 _).setCell hl1 _, ?_⟩
      simp only[Act.put,zpa,zpb,zpc]
      clear f0 f1 p0 p1
      have hh2:=rowIs_touch (F:=[g1]) HRA3.out (((Touch.refl [g1] W5).setCell (p:=⟨g1,0,none⟩) (.inl (by simp)) (.int .i64 PA.x)).setCell (p:=⟨g1,1,none⟩) (.inl (by simp)) (.int .i64 PA.y)) (by simp;omega)
      have hh1:=World.rowIs.congr (g:=ptF PA) (World.rowIs.set (World.rowIs.set HRB3.out 0 (.int .i64 PA.x)) 1 (.int .i64 PA.y)) (fun i hi=>by rcases i with _|_|i<;>first|rfl|exact absurd hi (by omega))
      have hs1:=(HS5.out.setCell (p:=⟨g1,0,none⟩) hl1 (.int .i64 PA.x)).setCell (p:=⟨g1,1,none⟩) hl1 (.int .i64 PA.y)
      refine par3_nm (fun Wz hW9=> ?_)
      rw[←hW9] at hh1 hh2 hs1
      clear hW9
      have HH1:=Lib.hid hh1
      have HH2:=Lib.hid hh2
      have HSZ:=Lib.hid hs1
      clear hh1 hh2 hs1
      have f0:=World.rowIs.frozen HH2.out 0
      have f1:=World.rowIs.frozen HH2.out 1
      have p0:=World.rowIs.cell HH2.out (i:=0) (by decide)
      have p1:=World.rowIs.cell HH2.out (i:=1) (by decide)
      refine par3_tail _ (by simp only[List.drop_succ_cons,List.drop_zero];rfl) (by kernel_rfl) ?_
      go_wp2_with fail
      refine NoPanic.normal ?_
      go_step
      first|go_meet|(go_step;go_meet)
      refine⟨g1,g2,rfl,rfl,rowIs_touch (F:=[g2]) HH1.out (((Touch.refl _ _).setCell (.inl (by simp)) _).setCell (.inl (by simp)) _) (by simp;omega),World.rowIs.congr (World.rowIs.set (World.rowIs.set HH2.out 0 _) 1 _) (fun i hi=>by rcases i with _|_|i<;>first|rfl|exact absurd hi (by omega)),hne,hl1,hl2,(HSZ.out.setCell hl2 _).setCell hl2 _⟩
   case rest=>
   obtain⟨g1,g2,rfl,rfl,hr1,hr2,hne,hg1,hg2,hb⟩:=hcut
   have HR1:=Lib.hid hr1
   have HR2:=Lib.hid hr2
   have HBC:=Lib.hid hb
   have HIR:=Lib.hid (rowIs_touch HI.out.row (Touch.of_below (F:=[]) hb) (by simp))
   have HT:=Lib.hid (touch_later HB.out hb)
   have HXC:=Lib.hid (HX.out.trans (hb.mono HX.out.size))
   have hsc:=hb.size
   have lt1:=World.rowIs.lt hr1
   have lt2:=World.rowIs.lt hr2
   clear hr1 hr2 hb p0 p1 c0 c1
   go_upto_region 8 with fail
   have HY:=fun(w':World) (t:Below wc.heap.size wc w')=>Lib.hid (show w'.cell? ⟨w.heap.size+1+1,0,none⟩=some (.bool g)∧w'.cell? ⟨w.heap.size+1+1,1,none⟩=some (.slice da dn dc)∧w'.cell? ⟨g1,0,none⟩=some (.int .i64 PA.x)∧w'.cell? ⟨g1,1,none⟩=some (.int .i64 PA.y)∧w'.cell? ⟨g2,0,none⟩=some (.int .i64 PB.x)∧w'.cell? ⟨g2,1,none⟩=some (.int .i64 PB.y) from
    ⟨(t.cell (p:=⟨w.heap.size+1+1,_,none⟩) (by show w.heap.size+1+1<_;omega)).trans (World.rowIs.cell HIR.out (i:=0) (by decide)),(t.cell (p:=⟨w.heap.size+1+1,_,none⟩) (by show w.heap.size+1+1<_;omega)).trans (World.rowIs.cell HIR.out (i:=1) (by decide)),(t.cell (p:=⟨g1,_,none⟩) lt1).trans (World.rowIs.cell HR1.out (i:=0) (by decide)),(t.cell (p:=⟨g1,_,none⟩) lt1).trans (World.rowIs.cell HR1.out (i:=1) (by decide)),(t.cell (p:=⟨g2,_,none⟩) lt2).trans (World.rowIs.cell HR2.out (i:=0) (by decide)),(t.cell (p:=⟨g2,_,none⟩) lt2).trans (World.rowIs.cell HR2.out (i:=1) (by decide))⟩)
   have HS0:=Lib.hid (Below.refl wc.heap.size wc).drew
   refine wp_region_noPanic ?_
   refine wp_region_par3 14 14 (by kernel_rfl) (by kernel_rfl) (by simp) (by omega) (by kernel_rfl) (by kernel_rfl) (fun w':World=>Below wc.heap.size wc w') ?_
   refine par3_read (v:= ?_) 0 (by simp only[zga,zgb,zgc];rfl) (by kernel_rfl) (by rfl) HS0.out ?_ (fun _ _ _ h=>h) ?_
   rotate_left
   ·(intro w9 hSw;obtain⟨y0,y1,y2,y3,y4,y5⟩:=(HY w9 hSw).out;clear hSw;go_simp;try with_reducible rfl)
   simp only[Act.put,zpa,zpb,zpc]
   refine par3_move (v:= ?_) 1 (by simp only[zga,zgb,zgc];rfl) (by kernel_rfl) (by rfl) ?_ (fun _ _ _ h=>h) ?_
   rotate_left
   ·(intro w9;go_simp;try with_reducible rfl)
   simp only[Act.put,zpa,zpb,zpc]
   refine par3_read (v:= ?_) 2 (by simp only[zga,zgb,zgc];rfl) (by kernel_rfl) (by rfl) HS0.out ?_ (fun _ _ _ h=>h) ?_
   rotate_left
   ·(intro w9 hSw;obtain⟨y0,y1,y2,y3,y4,y5⟩:=(HY w9 hSw).out;clear hSw;go_simp;try with_reducible rfl)
   simp only[Act.put,zpa,zpb,zpc]
   refine par3_move (v:= ?_) 3 (by simp only[zga,zgb,zgc];rfl) (by kernel_rfl) (by rfl) ?_ (fun _ _ _ h=>h) ?_
   rotate_left
   ·(intro w9;go_simp;try with_reducible rfl)
   simp only[Act.put,zpa,zpb,zpc]
   refine par3_read (v:= ?_) 4 (by simp only[zga,zgb,zgc];rfl) (by kernel_rfl) (by rfl) HS0.out ?_ (fun _ _ _ h=>h) ?_
   rotate_left
   ·(intro w9 hSw;obtain⟨y0,y1,y2,y3,y4,y5⟩:=(HY w9 hSw).out;clear hSw;go_simp;try with_reducible rfl)
   simp only[Act.put,zpa,zpb,zpc]
   refine par3_move (v:= ?_) 5 (by simp only[zga,zgb,zgc];rfl) (by kernel_rfl) (by rfl) ?_ (fun _ _ _ h=>h) ?_
   rotate_left
   ·(intro w9;go_simp;try with_reducible rfl)
   simp only[Act.put,zpa,zpb,zpc]
   refine par3_move (v:= ?_) 6 (by simp only[zga,zgb,zgc];rfl) (by kernel_rfl) (by rfl) ?_ (fun _ _ _ h=>h) ?_
   rotate_left
   ·(intro w9;go_simp;try with_reducible rfl)
   simp only[Act.put,zpa,zpb,zpc]
   refine par3_read (v:= ?_) 7 (by simp only[zga,zgb,zgc];rfl) (by kernel_rfl) (by rfl) HS0.out ?_ (fun _ _ _ h=>h) ?_
   rotate_left
   ·(intro w9 hSw;obtain⟨y0,y1,y2,y3,y4,y5⟩:=(HY w9 hSw).out;clear hSw;go_simp;try with_reducible rfl)
   simp only[Act.put,zpa,zpb,zpc]
   refine par3_move (v:= ?_) 8 (by simp only[zga,zgb,zgc];rfl) (by kernel_rfl) (by rfl) ?_ (fun _ _ _ h=>h) ?_
   rotate_left
   ·(intro w9;go_simp;try with_reducible rfl)
   simp only[Act.put,zpa,zpb,zpc]
   refine par3_read (v:= ?_) 9 (by simp only[zga,zgb,zgc];rfl) (by kernel_rfl) (by rfl) HS0.out ?_ (fun _ _ _ h=>h) ?_
   rotate_left
   ·(intro w9 hSw;obtain⟨y0,y1,y2,y3,y4,y5⟩:=(HY w9 hSw).out;clear hSw;go_simp;try with_reducible rfl)
   simp only[Act.put,zpa,zpb,zpc]
   refine par3_move (v:= ?_) 10 (by simp only[zga,zgb,zgc];rfl) (by kernel_rfl) (by rfl) ?_ (fun _ _ _ h=>h) ?_
   rotate_left
   ·(intro w9;go_simp;try with_reducible rfl)
   simp only[Act.put,zpa,zpb,zpc]
   refine par3_move (v:= ?_) 11 (by simp only[zga,zgb,zgc];rfl) (by kernel_rfl) (by rfl) ?_ (fun _ _ _ h=>h) ?_
   rotate_left
   ·(intro w9;go_simp;try with_reducible rfl)
   simp only[Act.put,zpa,zpb,zpc]
   refine par3_nm (fun W0 hW0=> ?_)
   rw[←hW0] at HS0
   clear hW0
   refine par3_one 12 (by simp only[zga,zgb,zgc];rfl) (by kernel_rfl) (by rfl) ?_
   refine owp_call (by go_simp;constructor<;>rfl) ?_
   refine(HNU _).out.mono ?_
   rintro z W12 ⟨⟨z1,rfl,hz1⟩,hb9⟩
   have HZ1:=Lib.hid hz1
   have HS12:=Lib.hid (below_next HS0.out HS0.out.size hb9)
   refine⟨_,rfl,fun s _=>HS12.out, ?_⟩
   clear hb9 hz1
   simp only[Act.put,zpa,zpb,zpc]
   have HN0:=Lib.hid (((HI.out.num.below (HBC.out.trans (HS12.out.mono HBC.out.size))).mono (Nat.le_trans HBC.out.size HS12.out.size)))
   have HAD:=Lib.hid (r3add_any (w:=W12) HN0.out HZ1.out (bdN_of HI.out.bd (by omega)) (bdN_few HXB.out) (Nat.le_refl _))
   refine par3_one 13 (by simp only[zga,zgb,zgc];rfl) (by kernel_rfl) (by rfl) ?_
   refine owp_call (by go_simp;constructor<;>rfl) ?_
   refine HAD.out.mono ?_
   rintro z W13 ⟨⟨z2,rfl,hz2⟩,hb9⟩
   have HS13:=Lib.hid (below_next HS12.out HS12.out.size hb9)
   obtain⟨g3,a3,n3,k3,rfl⟩:=hz2.form
   have HZ2:=Lib.hid (hz2.weak (lo':=W.heap.size) (by have:=HS12.out.size;have:=HB.out.size;omega))
   refine⟨_,rfl,fun s _=>HS13.out, ?_⟩
   clear hb9 hz2
   simp only[Act.put,zpa,zpb,zpc]
   have HIR2:=Lib.hid (rowIs_touch HIR.out (Touch.of_below (F:=[]) HS13.out) (by simp))
   have HT2:=Lib.hid (touch_later HT.out HS13.out)
   have f0:=fun i=>World.rowIs.frozen HIR2.out i
   have c0:W13.cell? ⟨w.heap.size+1+1,0,none⟩=some (.bool g):=World.rowIs.cell HIR2.out (i:=0) (by decide)
   have c1:W13.cell? ⟨w.heap.size+1+1,1,none⟩=some (.slice da dn dc):=World.rowIs.cell HIR2.out (i:=1) (by decide)
   clear HN0 HAD b1 b2 hmu hmv HNU q1 q2 q3
   refine par3_tail _ (by simp only[List.drop_succ_cons,List.drop_zero];rfl) (by kernel_rfl) ?_
   go_wp2_with fail
   refine NoPanic.normal ?_
   go_wp2_with fail
   go_roundw
   case rel=>
    refine⟨k+1,g3, .slice a3 n3 k3,by omega,by go_num,World.rowIs.congr (World.rowIs.set (World.rowIs.set HIR2.out 0 _) 1 _) (fun i hi=>by rcases i with _|_|i<;>first|rfl|exact absurd hi (by omega)), ?_, ?_,(HT2.out.setCell (.inl (by simp)) _).setCell (.inl (by simp)) _⟩
    ·rw[HSX.out]
     exact(HZ2.out.touch (((Touch.refl [w.heap.size+1+1] W13).setCell (.inl (by simp)) _).setCell (.inl (by simp)) _) (Nat.le_refl _) (by intro b hb;have:=HWs.out;simp at hb;omega)).mono (by simp)
    ·rw[HSX.out]
     exact bd_next HI.out.bd HXB.out
   case measure=>simp[intOf];omega
  ·have F:=Lib.hid (show areaPr p R=areaL ((R.map (endsP p)).take k) from by
    rw[HD.out,List.take_of_length_le (by rw[List.length_map];have:=HL.out;omega)])
   generalize areaL ((R.map (endsP p)).take k)=s at HI F
   have HQ1:=Lib.hid (rowIs_touch HQ.out HB.out (by simp))
   have f1:=fun i=>World.rowIs.frozen HQ1.out i
   have q0:wr.cell? ⟨w.heap.size+1,0,none⟩=some (.bool false):=World.rowIs.cell HQ1.out (i:=0) (by decide)
   have q1:wr.cell? ⟨w.heap.size+1,1,none⟩=some (.slice none 0 0):=World.rowIs.cell HQ1.out (i:=1) (by decide)
   go_wp2_with fail
   refine bodyPost_ret_by (res_nm (g:=g) (v:= .slice da dn dc) Tryz.results32 rfl (World.rowIs.congr (World.rowIs.set (World.rowIs.set HQ1.out 0 _) 1 _) (fun i hi=>by rcases i with _|_|i<;>first|rfl|exact absurd hi (by omega)))) rfl ?_
   refine⟨⟨_,rfl, ?_⟩,(HX.out.setCell (p:=⟨w.heap.size+1,0,none⟩) (by show _≤w.heap.size+1;omega) _).setCell (p:=⟨w.heap.size+1,1,none⟩) (by show _≤w.heap.size+1;omega) _⟩
   rw[F.out]
   exact((HI.out.num.touch (((Touch.refl [w.heap.size+1] wr).setCell (.inl (by simp)) _).setCell (.inl (by simp)) _) (Nat.le_refl _) (by intro b hb;have:=HWs.out;simp at hb;omega)).mono (by simp)).weak HW.out.size
end Go.Proofs.YthopjhifepijiaaGreat
