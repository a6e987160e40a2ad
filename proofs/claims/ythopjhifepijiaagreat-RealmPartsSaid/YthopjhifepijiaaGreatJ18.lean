/- Lemmas on the way to the statement. -/
import Derived.Test.YthopjhifepijiaaGreatJ17
set_option linter.unusedSimpArgs false
set_option linter.unusedVariables false
namespace Go.Proofs.YthopjhifepijiaaGreat
open Go.RowKit Go.Joins
theorem RgIn.row {w:World} {B n:Nat} {a:Option Addr} {L:List (List Hf)} (h:RgIn w B a n L) (hn:0<n): ∃b off,a=some ⟨b,off,none⟩∧b<B∧ ∀i R,L[i]? =some R→ ∃a' c, ∀w',Below B w w'→w'.cell? ⟨b,off+i,none⟩=some (.slice a' R.length c)∧HsIn w' B a' R.length R:=by
 obtain⟨h1,h2|⟨b,off,e,hb,hs⟩⟩:=h
 ·omega
 ·refine⟨b,off,e,hb,fun i R hi=> ?_⟩
  obtain⟨a',c,hc,hr⟩:=hs i R hi
  exact⟨a',c,fun w' k=>⟨(k.cell (p:=⟨b,_,none⟩) hb).trans hc,hr.below k⟩⟩
def outL (p:PL) (k:Nat):List (List Hf):=((ringsP p).take k).filter fun L=>decide (0<areaH p L)
theorem outL_succ {p:PL} {k:Nat} {L:List Hf} (h:(ringsP p)[k]? =some L):outL p (k+1)=outL p k++if 0<areaH p L then [L] else []:=by
 unfold outL
 rw[take_snoc' h,List.filter_append]
 by_cases ha:0<areaH p L<;>simp[ha]
structure OtS (p:PL) (lo:Nat) (w1 wr:World) (k:Nat) (ov:Value) (xs:List Value):Prop where
 own:wr.ownsRow w1.heap.size 33 1 ov (outL p k).length xs
 rows: ∀(i:Nat) (R:List Hf),(outL p k)[i]? =some R→ ∃g c,xs[i]? =some (.slice (some ⟨g,0,none⟩) R.length c)∧lo≤g∧g<w1.heap.size∧HsAt w1 g 0 R
 blw:Below w1.heap.size w1 wr
theorem OtS.later {p:PL} {lo:Nat} {w1 wr w5:World} {k:Nat} {ov:Value} {xs:List Value} (h:OtS p lo w1 wr k ov xs) (b:Below wr.heap.size wr w5):OtS p lo w1 w5 k ov xs:=
 ⟨ownsRow_touch h.own (Touch.of_below (F:=[]) b) (by simp),h.rows,below_step b h.blw⟩
theorem VsIn.mono7 {w:World} {B B' n:Nat} {a:Option Addr} {l:List Vx} (h:VsIn w B a n l) (k:B≤B'):VsIn w B' a n l:=⟨h.1,h.2.imp id (fun⟨b,off,e,hb,hs⟩=>⟨b,off,e,Nat.lt_of_lt_of_le hb k,hs⟩)⟩
theorem EsIn.mono7 {w:World} {B B' n:Nat} {a:Option Addr} {l:List Ed} (h:EsIn w B a n l) (k:B≤B'):EsIn w B' a n l:=⟨h.1,h.2.imp id (fun⟨b,off,e,hb,hs⟩=>⟨b,off,e,Nat.lt_of_lt_of_le hb k,hs⟩)⟩
theorem OtS.rg {p:PL} {lo:Nat} {w1 wr:World} {k n c:Nat} {a:Option Addr} {xs:List Value} (h:OtS p lo w1 wr k (.slice a n c) xs) (hn:n=(outL p k).length):RgIn wr wr.heap.size a n (outL p k):=by
 subst hn
 refine⟨rfl, ?_⟩
 rcases Nat.eq_zero_or_pos (outL p k).length with h0|h0
 ·exact .inl h0
 ·obtain⟨g,cap,e⟩:=ownsRow_form h.own h0
  injection e with e1 e2 e3
  subst e1
  refine .inr ⟨g,0,rfl,(h.own.lt g rfl).2,fun i R hi=> ?_⟩
  obtain⟨g',c',h1, -,h3,h2⟩:=h.rows i R hi
  have hc:=(addr_add0 g i)▸h.own.cells (g:=g) rfl (j:=i) (u:= .slice (some ⟨g',0,none⟩) R.length c') h1
  exact⟨_,c',by simpa using hc,(HsIn.below (show HsIn w1 w1.heap.size (some ⟨g',0,none⟩) R.length R from⟨rfl, .inr ⟨g',0,rfl,h3,h2⟩⟩) h.blw).mono h.blw.size⟩
theorem OtS.ro {p:PL} {lo:Nat} {w1 wr:World} {k n c:Nat} {a:Option Addr} {xs:List Value} (h:OtS p lo w1 wr k (.slice a n c) xs) (hn:n=(outL p k).length) (hlo:lo≤w1.heap.size):RgOut lo wr a (outL p k):=by
 subst hn
 rcases Nat.eq_zero_or_pos (outL p k).length with h0|h0
 ·exact .inl (List.eq_nil_of_length_eq_zero h0)
 ·obtain⟨g,cap,e⟩:=ownsRow_form h.own h0
  injection e with e1 e2 e3
  subst e1
  refine .inr ⟨g,rfl,Nat.le_trans hlo (h.own.lt g rfl).1,(h.own.lt g rfl).2,fun i R hi=> ?_⟩
  obtain⟨g',c',h1,h4,h3,h2⟩:=h.rows i R hi
  have hc:=(addr_add0 g i)▸h.own.cells (g:=g) rfl (j:=i) (u:= .slice (some ⟨g',0,none⟩) R.length c') h1
  exact⟨g',c',by simpa using hc,h4,Nat.lt_of_lt_of_le h3 h.blw.size,h2.touch (Touch.of_below (F:=[]) (h.blw)) h3 (by simp)⟩
theorem OtS.add {p:PL} {lo:Nat} {w1 wr w5:World} {k:Nat} {ov v':Value} {xs:List Value} {L:List Hf} {b c:Nat} {q:Obj} (h:OtS p lo w1 wr k ov xs) (hs:outL p (k+1)=outL p k++[L]) (hL:lo≤b∧b<w1.heap.size∧HsAt w1 b 0 L)
  (hown:w5.ownsRow w1.heap.size 33 1 v' ((outL p k).length+1) (xs++[.slice (some ⟨b,0,none⟩) L.length c])) (hgr:(wr.alloc q).grownBy w5 ov.ownBlock):OtS p lo w1 w5 (k+1) v' (xs++[.slice (some ⟨b,0,none⟩) L.length c]):=by
 have hx:xs.length=(outL p k).length:=by have:=h.own.1;omega
 refine⟨by rw[hs,List.length_append];exact hown,fun i R hi=> ?_,(h.blw.alloc h.blw.size q).grown hgr (Nat.le_trans h.blw.size (below_alloc (o:=q) (Below.refl wr.heap.size wr)).size) (fun z hz=>(h.own.lt z hz).1)⟩
 rw[hs] at hi
 by_cases hlt:i<(outL p k).length
 ·rw[List.getElem?_append_left hlt] at hi
  obtain⟨a',c',h1,h2⟩:=h.rows i R hi
  exact⟨a',c',by rw[List.getElem?_append_left (by omega)];exact h1,h2⟩
 ·have:=(List.getElem?_eq_some_iff.1 hi).1
  simp at this
  obtain rfl:i=(outL p k).length:=by omega
  rw[List.getElem?_append_right (Nat.le_refl _)] at hi
  simp at hi
  subst hi
  exact⟨b,c,by rw[List.getElem?_append_right (by omega),hx];simp,hL⟩
theorem area_ring {p:PL} (r:RightP p) {L:List Hf} (h:L∈ringsP p):areaPr p L=areaH p L:=by
 obtain⟨h0,m,hr⟩:=r.rings.1 L h
 have hk:knownB p L=true:=known_of (fun x hx=>(hr.mem x hx).1)
 unfold areaPr areaH
 rw[rightB_iff.2 r,hk]
 rfl
theorem ring_len {p:PL} (r:RightP p) {L:List Hf} (h:L∈ringsP p):L.length≤2*p.es.length:=by
 obtain⟨h0,m,hr⟩:=r.rings.1 L h
 have:=nodup_len hr.nd (fun x hx=>(hr.mem x hx).1)
 rw[halves_len] at this
 exact this
set_option maxRecDepth 100000 in
set_option maxHeartbeats 16000000 in
theorem r17outers_any {w:World} {B vn vc en ec:Nat} {va ea:Option Addr} {p:PL} (r:RightP p) (hv:VsIn w B va vn p.vs) (he:EsIn w B ea en p.es) (hB:B≤w.heap.size) (hec:en≤ec) (hfew:en≤100):
  Calls Tryz.prog 29 #[.agg #[.slice va vn vc, .slice ea en ec]] w fun e w'=>(∃a n c,e= .returned (.slice a n c)∧RgIn w' w'.heap.size a n (outersP p)∧RgOut w.heap.size w' a (outersP p))∧Below w.heap.size w w':=by
 have hvn:vn≤512:=by have:=r.nv;have:=hv.1;omega
 have HRI:=fun(W:World) (hb:Below w.heap.size w W)=>Lib.hid (r16rings_any (w:=W) (vc:=vc) (ec:=ec) r (hv.below (hb.mono hB)) (he.below (hb.mono hB)) (Nat.le_trans hB hb.size))
 have HAR:=fun(W:World) (hb:Below w.heap.size w W) (B2:Nat) (hB2:B≤B2) (a:Option Addr) (n c:Nat) (L:List Hf) (hl:HsIn W B2 a n L) (h2:B2≤W.heap.size) (hn:n≤2000) (hvv:VsIn W B2 va vn p.vs) (hee:EsIn W B2 ea en p.es)=>Lib.hid (r17area_any (w:=W) (vc:=vc) (ec:=ec) (c:=c) hvv hee hl h2 hec (by omega) (by omega) hn)
 have HV:=Lib.hid hv
 have HE:=Lib.hid he
 have HR:=Lib.hid r
 have HM:=Lib.hid he.1
 obtain⟨j0,hj0,hy0,hy1,hy2⟩:=info_parts Tryz.infoHs
 clear hv he r
 go_enter Tryz.func29,Tryz.ntmps29
 go_wp2_with fail
 first|refine wp_name (fun W hW=> ?_)|refine calls_name (fun W hW=> ?_)
 have HW:Hid (Below w.heap.size w W):=Lib.hid (by rw[←hW];repeat (first|exact Below.refl _ _|refine below_alloc ?_))
 have HWs:Hid (W.heap.size=w.heap.size+1):=Lib.hid (by rw[←hW];simp)
 have HBW:Hid (W.heap.size≤W.heap.size):=Lib.hid (by have:=HWs.out;omega)
 have HC:=fun(W1:World) (hb:Below (W.heap.size) W W1)=>Lib.hid (show W1.cell? ⟨w.heap.size,0,none⟩=some (.slice va vn vc)∧W1.cell? ⟨w.heap.size,1,none⟩=some (.slice ea en ec) from by have hs:=HWs.out;refine⟨?_, ?_⟩<;>(refine(hb.cell (by dsimp only;omega)).trans ?_;rw[←hW];clear hW;go_simp))
 have HB:=Lib.hid (Below.refl (W.heap.size) W)
 clear hW
 have HZ:=fun(W1:World) (hb:W.heap.size≤W1.heap.size)=>Lib.hid (show w.heap.size<W1.heap.size from by have:=HWs.out;omega)
 obtain⟨qx0,qx1⟩:=(HC _ HB.out).out
 have rx0:=(HZ _ HB.out.size).out
 refine((HRI _ HW.out).out).mono ?_
 rintro e w1 ⟨⟨la,ln,lc,rfl,hrg,hro⟩,hb2⟩
 have HB:=bnx HB HBW hb2
 clear qx0 qx1 rx0
 obtain⟨qx0,qx1⟩:=(HC _ HB.out).out
 clear hb2
 have rx0:=(HZ _ HB.out.size).out
 have HRG:=Lib.hid hrg
 have HRU:=Lib.hid (hro.mono HW.out.size)
 have hln:ln≤400:=by have:=hrg.1;have:=HR.out.rings_few;have:=HM.out;omega
 have HLN:=Lib.hid hrg.1
 clear hrg hro
 go_wp2_with fail
 have HX1:=Lib.hid (HW.out.trans (HB.out.mono HW.out.size))
 clear qx0 qx1 rx0
 go_loopw [3,5] (fun o v wr=> ∃(k:Nat) (ov:Value) (xs:List Value),k≤ln∧v= .int .i64 k∧ov=o∧OtS p w.heap.size w1 wr k ov xs) (fun _ v _=>ln - (intOf v).toNat)
 case atStart=>exact⟨0,_,[],Nat.zero_le _,rfl,rfl,by simpa[outL] using World.ownsRow_nil _ _ _ _,fun i R h=>by simp[outL] at h,Below.refl _ _⟩
 case round=>
  obtain⟨k,ov,xs,hk,rfl,rfl,hI⟩:=hrel
  obtain⟨wq,rfl⟩: ∃x:World,x=wr:=⟨_,rfl⟩
  have HI:=Lib.hid hI
  have HB:=Lib.hid (HB.out.trans (hI.blw.mono HB.out.size))
  have HX:=Lib.hid (HX1.out.trans (hI.blw.mono HX1.out.size))
  clear hI
  obtain⟨qx0,qx1⟩:=(HC _ HB.out).out
  have rx0:=(HZ _ HB.out.size).out
  by_cases hlt:k<ln
  ·obtain⟨L,hL⟩: ∃L,(ringsP p)[k]? =some L:=⟨_,List.getElem?_eq_getElem (by have:=HLN.out;omega)⟩
   have HLK:=Lib.hid hL
   have hmem:=List.mem_of_getElem? hL
   obtain⟨lb,loff,rfl,hlb,hcell⟩:=HRG.out.row (by omega)
   obtain⟨ra,rc,hring⟩:=hcell k L hL
   obtain⟨rg,rfl,hgo⟩:=HRU.out.at_ hL (hring w1 (Below.refl _ _)).1
   have HGO:=Lib.hid hgo
   have HRW:=fun(W1:World) (hb:Below w1.heap.size w1 W1)=>Lib.hid (hring W1 hb)
   have hrl:L.length≤200:=by have:=ring_len HR.out hmem;have:=HM.out;omega
   have HAP:=Lib.hid (area_ring HR.out hmem)
   have HSU:=Lib.hid (outL_succ hL)
   have HAC:=fun(W1:World) (hb:Below wq.heap.size wq W1)=>Lib.hid (HAR W1 (below_step hb HX.out) w1.heap.size (Nat.le_trans hB HX1.out.size) (some ⟨rg,0,none⟩) L.length rc L ((HRW W1 (below_step hb HI.out.blw)).out.2) (Nat.le_trans HI.out.blw.size hb.size) (by omega) ((HV.out.below ((below_step hb HX.out).mono hB)).mono7 (Nat.le_trans hB HX1.out.size)) ((HE.out.below ((below_step hb HX.out).mono hB)).mono7 (Nat.le_trans hB HX1.out.size))).out
   clear hL hcell hring hmem hgo
   go_wp2_with fail
   clear qx0 qx1 rx0
   go_cut [6] (fun v6 wx=> ∃g nm bg,v6= .pointer (some ⟨bg,0,none⟩)∧wx.rowIs bg 87 2 (nmF g nm)∧NmV wx 0 wx.heap.size (.agg #[.bool g,nm]) (areaH p L)∧Below wq.heap.size wq wx)
   case first=>
    have HY:=fun(w':World) (t:Below wq.heap.size wq w')=>Lib.hid (show w'.cell? ⟨w.heap.size,0,none⟩=some (.slice va vn vc)∧w'.cell? ⟨w.heap.size,1,none⟩=some (.slice ea en ec)∧w'.cell? ⟨lb,loff+k,none⟩=some (.slice (some ⟨rg,0,none⟩) L.length rc) from by
     obtain⟨d0,d1⟩:=(HC _ (HB.out.trans (t.mono HB.out.size))).out
     exact⟨d0,d1,(HRW _ (below_step t HI.out.blw)).out.1⟩)
    have HS0:=Lib.hid (Below.refl wq.heap.size wq).drew
    refine wp_region_noPanic ?_
    refine wp_region_par3 7 7 (by kernel_rfl) (by kernel_rfl) (by simp) (by omega) (by kernel_rfl) (by kernel_rfl) (fun w':World=>Below wq.heap.size wq w') ?_
    refine par3_read8 (v:= ?_) 0 (by simp only[zga,zgb,zgc];rfl) (by kernel_rfl) (by rfl) HS0.out ?_ (fun _ _ _ h=>h) ?_
    rotate_left
    ·(intro w9 hSw;obtain⟨y0,y1,y2⟩:=(HY w9 hSw).out;clear hSw;go_simp;try with_reducible rfl)
    simp only[Act.put,zpa,zpb,zpc]
    refine par3_move (v:= ?_) 1 (by simp only[zga,zgb,zgc];rfl) (by kernel_rfl) (by rfl) ?_ (fun _ _ _ h=>h) ?_
    rotate_left
    ·(intro w9;go_simp;try with_reducible rfl)
    simp only[Act.put,zpa,zpb,zpc]
    refine par3_move (v:= ?_) 2 (by simp only[zga,zgb,zgc];rfl) (by kernel_rfl) (by rfl) ?_ (fun _ _ _ h=>h) ?_
    rotate_left
    ·(intro w9;go_simp;try with_reducible rfl)
    simp only[Act.put,zpa,zpb,zpc]
    refine par3_move (v:= ?_) 3 (by simp only[zga,zgb,zgc];rfl) (by kernel_rfl) (by rfl) ?_ (fun _ _ _ h=>h) ?_
    rotate_left
    ·(intro w9;go_simp;try with_reducible rfl)
    simp only[Act.put,zpa,zpb,zpc]
    refine par3_read8 (v:= ?_) 4 (by simp only[zga,zgb,zgc];rfl) (by kernel_rfl) (by rfl) HS0.out ?_ (fun _ _ _ h=>h) ?_
    rotate_left
    ·(intro w9 hSw;obtain⟨y0,y1,y2⟩:=(HY w9 hSw).out;clear hSw;go_simp;try with_reducible rfl)
    simp only[Act.put,zpa,zpb,zpc]
    refine par3_nm (fun W0 hW0=> ?_)
    rw[←hW0] at HS0
    clear hW0
    refine par3_two 5 6 (by simp only[zga,zgb,zgc];rfl) (by simp only[zga,zgb,zgc];rfl) (by kernel_rfl) (by rfl) (by rfl) ?_ ?_
    ·refine owp_call (by go_simp;constructor<;>rfl) ?_
     refine(HAC _ HS0.out).out.mono ?_
     rintro z W5 ⟨⟨z1,rfl,hz⟩,hb9⟩
     have HS5:=Lib.hid (below_next HS0.out HS0.out.size hb9)
     rw[HAP.out] at hz
     obtain⟨g,da,dn,dc,rfl⟩:=hz.form
     have HZ:=Lib.hid hz
     refine⟨_,rfl,fun s _=>HS5.out, ?_⟩
     clear hb9 hz
     simp only[Act.put,zpa,zpb,zpc]
     refine par3_one 6 (by simp only[zga,zgb,zgc];rfl) (by kernel_rfl) (by rfl) ?_
     refine owp_val (v:= ?_) (w1:= ?_) ?_ ?_
     rotate_left 2
     ·(go_simp;constructor<;>rfl)
     refine⟨fun s _=>s.alloc s.size _, ?_⟩
     simp only[Act.put,zpa,zpb,zpc]
     refine par3_tail _ (by simp only[List.drop_succ_cons,List.drop_zero];rfl) (by kernel_rfl) ?_
     go_wp2_with fail
     refine NoPanic.normal ?_
     go_step
     first|go_meet|(go_step;go_meet)
     exact⟨g, .slice da dn dc,_,rfl,World.rowIs_alloc W5 #[.bool g, .slice da dn dc] 87 (nmF g (.slice da dn dc)) (fun i hi=>by rcases i with _|_|i<;>first|rfl|(simp at hi;omega)),((HZ.out.below (below_alloc (Below.refl _ _))).mono (by simp)).weak (Nat.zero_le _),HS5.out.alloc HS5.out.size _⟩
    ·refine owp_val (v:= ?_) (w1:= ?_) ?_ ?_
     rotate_left 2
     ·(go_simp;constructor<;>rfl)
     refine⟨fun s _=>s.alloc s.size _, ?_⟩
     simp only[Act.put,zpa,zpb,zpc]
     have HRA:=Lib.hid (show(W0.alloc (.cells #[.bool false, .slice none 0 0] 87)).rowIs W0.heap.size 87 2 (nmF false (.slice none 0 0)) from World.rowIs_alloc W0 #[.bool false, .slice none 0 0] 87 (nmF false (.slice none 0 0)) (fun i hi=>by rcases i with _|_|i<;>first|rfl|(simp at hi;omega)))
     have HSA:=Lib.hid (HS0.out.alloc HS0.out.size (.cells #[.bool false, .slice none 0 0] 87))
     have HZA:=Lib.hid (show W0.heap.size<(W0.alloc (.cells #[.bool false, .slice none 0 0] 87)).heap.size from by simp)
     refine par3_nm (fun WA hW9=> ?_)
     rw[←hW9] at HRA HSA HZA
     clear hW9
     refine par3_one 5 (by simp only[zga,zgb,zgc];rfl) (by kernel_rfl) (by rfl) ?_
     refine owp_call (by go_simp;constructor<;>rfl) ?_
     refine(HAC _ HSA.out).out.mono ?_
     rintro z W5 ⟨⟨z1,rfl,hz⟩,hb9⟩
     have HS5:=Lib.hid (below_next HSA.out HSA.out.size hb9)
     have HR5:=Lib.hid (rowIs_touch HRA.out (Touch.of_below (F:=[]) hb9) (by simp))
     rw[HAP.out] at hz
     obtain⟨g,da,dn,dc,rfl⟩:=hz.form
     have HZ:=Lib.hid hz
     refine⟨_,rfl,fun s _=>HS5.out, ?_⟩
     clear hb9 hz
     simp only[Act.put,zpa,zpb,zpc]
     have f0:=fun i=>World.rowIs.frozen HR5.out i
     have q0:W5.cell? ⟨W0.heap.size,0,none⟩=some (.bool false):=World.rowIs.cell HR5.out (i:=0) (by decide)
     have q1:W5.cell? ⟨W0.heap.size,1,none⟩=some (.slice none 0 0):=World.rowIs.cell HR5.out (i:=1) (by decide)
     refine par3_tail _ (by simp only[List.drop_succ_cons,List.drop_zero];rfl) (by kernel_rfl) ?_
     go_wp2_with fail
     refine NoPanic.normal ?_
     go_step
     first|go_meet|(go_step;go_meet)
     exact⟨g, .slice da dn dc,_,rfl,World.rowIs.congr (World.rowIs.set (World.rowIs.set HR5.out 0 _) 1 _) (fun i hi=>by rcases i with _|_|i<;>first|rfl|exact absurd hi (by omega)),((HZ.out.touch (((Touch.refl [W0.heap.size] W5).setCell (.inl (by simp)) _).setCell (.inl (by simp)) _) (Nat.le_refl _) (by intro b hb;have:=HZA.out;simp at hb;omega)).mono (by simp)).weak (Nat.zero_le _),(HS5.out.setCell HS0.out.size _).setCell HS0.out.size _⟩
   case rest=>
   obtain⟨g,nm,bg,rfl,hrow,hnm,hb⟩:=hcut
   obtain⟨da,dn,dc,rfl⟩:=hnm.dig
   have HI:=Lib.hid (HI.out.later hb)
   have HX:=Lib.hid (below_step hb HX.out)
   have c0:wc.cell? ⟨bg,0,none⟩=some (.bool g):=World.rowIs.cell hrow (i:=0) (by decide)
   have c1:wc.cell? ⟨bg,1,none⟩=some (.slice da dn dc):=World.rowIs.cell hrow (i:=1) (by decide)
   have hpos:(g=false∧0<dn∧0<areaH p L)∨(g=true∧ ¬0<areaH p L)∨(g=false∧ ¬0<dn∧ ¬0<areaH p L):=by
    obtain⟨g',a',n',c',l',e,hn',hc',hd, -⟩:=hnm
    simp at e
    obtain⟨rfl,rfl,rfl,rfl⟩:=e
    have h1:=hd.neg
    have h2:=hd.len
    rw[←hn'.1] at h2
    by_cases hneg:areaH p L<0
    ·right;left;exact⟨by rw[h1];simp[hneg],by omega⟩
    ·by_cases hz:areaH p L=0
     ·right;right
      simp[hz] at h2
      exact⟨by rw[h1];simp[hneg],by omega,by omega⟩
     ·left
      simp[hz] at h2
      exact⟨by rw[h1];simp[hneg],by omega,by omega⟩
   clear hb hnm hrow
   rcases hpos with ⟨rfl,h1,h2⟩|⟨rfl,h2⟩|⟨rfl,h1,h2⟩
   ·obtain⟨e0,hri⟩:=(HRW _ HI.out.blw).out
    have HLE:=Lib.hid (show(outL p k).length≤k from by unfold outL;exact Nat.le_trans (List.length_filter_le _ _) (by rw[List.length_take];omega))
    rw[if_pos h2] at HSU
    clear hri
    go_wp2_with (at_builtin;go_loud (refine wpList_append_near _ rfl (.tmp 30) (.tmp 35) 34 rfl w1.heap.size 33 j0 (.slice none 0 0) 1 24 Tryz.underlying34 hj0 hy0 hy1 hy2 rfl (by decide) ov (outL p k).length xs rfl (HI.out.own.alloc _) ⟨wc.heap.size,0,none⟩ 1 1 [.slice (some ⟨rg,0,none⟩) L.length rc] rfl (by decide) rfl (cell_list_at _ [.slice (some ⟨rg,0,none⟩) L.length rc] _ rfl) (by simp[Value.oneCell']) (by have:=HLE.out;unfold maxLen;omega) (by have:=HLE.out;omega) (by have:=HI.out.blw.size;simp;omega) ?_;intro g7 cap7 w10 hown hgr hat;have HN:=Lib.hid (show OtS p w.heap.size w1 w10 (k+1) (.slice (some ⟨g7,0,none⟩) ((outL p k).length+1) cap7) (xs++[.slice (some ⟨rg,0,none⟩) L.length rc]) from OtS.add HI.out HSU.out HGO.out hown hgr);clear hown hgr hat))
    go_roundw
    case rel=>exact⟨k+1,_,_,by omega,by go_num,rfl,HN.out⟩
    case measure=>simp[intOf];omega
   all_goals
    rw[if_neg h2,List.append_nil] at HSU
    go_wp2_with fail
    go_roundw
    case rel=>exact⟨k+1,_,xs,by omega,by go_num,rfl,by rw[HSU.out];exact HI.out.own,by rw[HSU.out];exact HI.out.rows,HI.out.blw⟩
    case measure=>simp[intOf];omega
  ·have hT:outL p k=outersP p:=by
    unfold outL outersP
    rw[List.take_of_length_le (by have:=HLN.out;omega)]
   obtain⟨oa,oc,rfl⟩:=own_form HI.out.own
   have HRO:=Lib.hid (HI.out.rg rfl)
   have HR1:=Lib.hid (HI.out.ro rfl HX1.out.size)
   rw[hT] at HRO HR1
   have HTL:=Lib.hid hT
   obtain⟨m,hml⟩: ∃m,m=(outL p k).length:=⟨_,rfl⟩
   rw[hT] at hml
   rw[show(outL p k).length=m from by rw[HTL.out,hml]]
   rw[←hml] at HRO
   clear hT hml HI
   go_wp2_with fail
   go_ret
   exact⟨⟨oa,m,oc,rfl,HRO.out,HR1.out⟩,HX.out⟩
end Go.Proofs.YthopjhifepijiaaGreat
namespace Go.Proofs.YthopjhifepijiaaGreat
open Go.RowKit Go.Joins
def rowN (n:Nat) (f:Nat→Nat):List Int:=(List.range n).map fun v=>(f v:Int)
theorem rowN_len (n:Nat) (f:Nat→Nat):(rowN n f).length=n:=by simp[rowN]
theorem rowN_get {n:Nat} {f:Nat→Nat} {i:Nat} (h:i<n):(rowN n f)[i]? =some (f i:Int):=by
 unfold rowN
 rw[List.getElem?_map,List.getElem?_range h]
 rfl
theorem rowN_succ (n:Nat) (f:Nat→Nat):rowN (n+1) f=rowN n f++[(f n:Int)]:=by
 unfold rowN
 rw[List.range_succ,List.map_append]
 rfl
theorem rowN_set {n:Nat} {f k:Nat→Nat} {b:Nat} (x:Nat) (h: ∀v,k v=if v=b then x else f v):(intC (rowN n f)).set b (.int .i64 (x:Int))=intC (rowN n k):=by
 apply List.ext_getElem?
 intro i
 rw[List.getElem?_set]
 unfold intC
 rw[List.getElem?_map,List.getElem?_map,List.length_map,rowN_len]
 by_cases hi:i<n
 ·rw[rowN_get hi,rowN_get hi,h i]
  by_cases hb:b=i
  ·subst hb
   simp[hi]
  ·rw[if_neg hb,if_neg (fun e=>hb e.symm)]
 ·have e1:(rowN n f)[i]? =none:=List.getElem?_eq_none (by rw[rowN_len];omega)
  have e2:(rowN n k)[i]? =none:=List.getElem?_eq_none (by rw[rowN_len];omega)
  rw[e1,e2]
  by_cases hb:b=i
  ·subst hb
   simp[hi]
  ·rw[if_neg hb]
theorem relax_l {f:Nat→Nat} {a b:Nat} (h:f a<f b): ∀v,relax f (a,b) v=if v=b then f a else f v:=fun v=>by
 unfold relax
 simp only
 by_cases h1:v=b
 ·subst h1;rw[if_pos (.inr rfl),if_pos rfl];omega
 ·rw[if_neg h1]
  by_cases h2:v=a
  ·subst h2;rw[if_pos (.inl rfl)];omega
  ·rw[if_neg (by simp[h1,h2])]
theorem relax_r {f:Nat→Nat} {a b:Nat} (h:f b<f a): ∀v,relax f (a,b) v=if v=a then f b else f v:=fun v=>by
 unfold relax
 simp only
 by_cases h1:v=a
 ·subst h1;rw[if_pos (.inl rfl),if_pos rfl];omega
 ·rw[if_neg h1]
  by_cases h2:v=b
  ·subst h2;rw[if_pos (.inr rfl)];omega
  ·rw[if_neg (by simp[h1,h2])]
theorem relax_e {f:Nat→Nat} {a b:Nat} (h:f a=f b):relax f (a,b)=f:=by
 funext v
 unfold relax
 simp only
 by_cases h1:v=a∨v=b
 ·rw[if_pos h1]
  rcases h1 with rfl|rfl<;>omega
 ·rw[if_neg h1]
theorem rowN_cell {w:World} {base n c m i g:Nat} {t:TypeId} {f:Nat→Nat} (h:w.ownsRow base t 1 (.slice (some ⟨g,0,none⟩) n c) n (intC (rowN m f))) (hi:i<m):w.cell? ⟨g,i,none⟩=some (.int .i64 (f i)):=by
 have hc:=(addr_add0 g i)▸h.cells (g:=g) rfl (j:=i) (u:= .int .i64 (f i)) (by unfold intC;rw[List.getElem?_map,rowN_get hi];rfl)
 simpa using hc
theorem relaxs_bd: ∀(L:List (Nat × Nat)) (f:Nat→Nat) (v:Nat),L.foldl relax f v≤f v
 |L,f,v=>round_le L f v
theorem rounds_bd (es:List (Nat × Nat)): ∀(k v:Nat),roundsL es k v≤v
 |0,v=>Nat.le_refl _
 |k+1,v=>Nat.le_trans (round_le es (roundsL es k) v) (rounds_bd es k v)
set_option maxRecDepth 100000 in
set_option maxHeartbeats 16000000 in
theorem r16pieces_any {w:World} {B vn vc en ec:Nat} {va ea:Option Addr} {p:PL} (r:RightP p) (hv:VsIn w B va vn p.vs) (he:EsIn w B ea en p.es) (hB:B≤w.heap.size):
  Calls Tryz.prog 30 #[.agg #[.slice va vn vc, .slice ea en ec]] w fun e w'=>(∃a c,e= .returned (.slice a vn c)∧w'.ownsRow w.heap.size 3 1 (.slice a vn c) vn (intC (rowN vn (roundsL (placesE p) vn))))∧Below w.heap.size w w':=by
 have hn:vn≤512:=by have:=r.nv;have:=hv.1;omega
 have hm:en≤1024:=by have:=r.ne;have:=he.1;omega
 have HVX:=fun(W1:World) (hb:Below w.heap.size w W1) (id:Int) (ea1:Option Addr)=>Lib.hid (r15vertex_any (w:=W1) (vc:=vc) (hv.below (hb.mono hB)) (Nat.le_trans hB hb.size) (by omega) (.slice ea1 en ec) ⟨_,_,_,rfl⟩ id)
 have HR:=Lib.hid r
 have HE:=Lib.hid he
 have HL:=Lib.hid hv.1
 have HM:=Lib.hid he.1
 obtain⟨l0,hl,hl0,hl1,hl2⟩:=info_parts Tryz.infoIn9
 clear hv he r
 go_enter Tryz.func30,Tryz.ntmps30
 go_wp2_with fail
 first|refine wp_name (fun W hW=> ?_)|refine calls_name (fun W hW=> ?_)
 have HW:Hid (Below w.heap.size w W):=Lib.hid (by rw[←hW];repeat (first|exact Below.refl _ _|refine below_alloc ?_))
 have HWs:Hid (W.heap.size=w.heap.size+1):=Lib.hid (by rw[←hW];simp)
 have HBW:Hid (W.heap.size≤W.heap.size):=Lib.hid (by have:=HWs.out;omega)
 have HC:=fun(W1:World) (hb:Below (W.heap.size) W W1)=>Lib.hid (show W1.cell? ⟨w.heap.size,0,none⟩=some (.slice va vn vc)∧W1.cell? ⟨w.heap.size,1,none⟩=some (.slice ea en ec) from by have hs:=HWs.out;refine⟨?_, ?_⟩<;>(refine(hb.cell (by dsimp only;omega)).trans ?_;rw[←hW];clear hW;go_simp))
 have HB:=Lib.hid (Below.refl (W.heap.size) W)
 clear hW
 have HZ:=fun(W1:World) (hb:W.heap.size≤W1.heap.size)=>Lib.hid (show w.heap.size<W1.heap.size from by have:=HWs.out;omega)
 obtain⟨qx0,qx1⟩:=(HC _ HB.out).out
 have rx0:=(HZ _ HB.out.size).out
 clear qx0 qx1 rx0
 go_loopw [3,4] (fun o v wr=> ∃(k:Nat) (ov:Value),k≤vn∧v= .int .i64 k∧ov=o∧wr.ownsRow W.heap.size 3 1 ov k (intC (rowN k id))∧Below W.heap.size W wr) (fun _ v _=>vn - (intOf v).toNat)
 case atStart=>exact⟨0,_,Nat.zero_le _,rfl,rfl,World.ownsRow_nil _ _ _ _,HB.out⟩
 case round=>
  clear HB
  obtain⟨k,ov,hk,rfl,rfl,how,hb⟩:=hrel
  have HOW:=Lib.hid how
  have HB:=Lib.hid hb
  clear how hb
  obtain⟨qx0,qx1⟩:=(HC _ HB.out).out
  have rx0:=(HZ _ HB.out.size).out
  by_cases hlt:k<vn
  ·go_wp2_with (at_builtin;go_loud (refine wpList_append_near _ rfl (.tmp 16) (.tmp 18) 35 rfl W.heap.size 3 l0 (.int .i64 0) 1 8 Tryz.underlying35 hl hl0 hl1 hl2 rfl (by decide) ov k _ rfl (HOW.out.alloc _) ⟨wr.heap.size,0,none⟩ 1 1 [.int .i64 k] rfl (by decide) rfl (cell_list_at _ [.int .i64 k] _ rfl) (by simp[Value.oneCell']) (by unfold maxLen;omega) (by omega) (by have:=HB.out.size;simp;omega) ?_;intro g cap w5 hown hgr hat;have HO5:=Lib.hid hown;have HB5:=Lib.hid ((HB.out.alloc HB.out.size (.cells #[.int .i64 k] 3)).grown hgr (Nat.le_trans HB.out.size (by simp)) (fun q hq=>(HOW.out.lt q hq).1));clear hown hgr hat))
   go_roundw
   case rel=>exact⟨k+1,_,by omega,by go_num,rfl,by rw[rowN_succ,intC_app];exact HO5.out,HB5.out⟩
   case measure=>simp[intOf];omega
  ·obtain rfl:vn=k:=by omega
   obtain⟨oa,oc,rfl⟩:=own_form HOW.out
   obtain⟨wo,rfl⟩: ∃y:World,y=wr:=⟨_,rfl⟩
   go_wp2_with fail
   clear qx0 qx1 rx0
   go_loopw [5] (fun v wr=> ∃k:Nat,k≤vn∧v= .int .i64 k∧wr.ownsRow W.heap.size 3 1 (.slice oa vn oc) vn (intC (rowN vn (roundsL (placesE p) k)))∧Below W.heap.size W wr) (fun v _=>vn - (intOf v).toNat)
   case atStart=>exact⟨0,Nat.zero_le _,rfl,HOW.out,HB.out⟩
   case round=>
    clear HB HOW
    obtain⟨k,hk,rfl,how,hb⟩:=hrel
    obtain⟨wq,rfl⟩: ∃y:World,y=wr:=⟨_,rfl⟩
    have HOW:=Lib.hid how
    have HB:=Lib.hid hb
    clear how hb
    obtain⟨qx0,qx1⟩:=(HC _ HB.out).out
    have rx0:=(HZ _ HB.out.size).out
    by_cases hlt:k<vn
    ·go_wp2_with fail
     clear qx0 qx1 rx0
     go_loopw [6] (fun v wr=> ∃n:Nat,n≤en∧v= .int .i64 n∧wr.ownsRow W.heap.size 3 1 (.slice oa vn oc) vn (intC (rowN vn (((placesE p).take n).foldl relax (roundsL (placesE p) k))))∧Below W.heap.size W wr) (fun v _=>en - (intOf v).toNat)
     case atStart=>exact⟨0,Nat.zero_le _,rfl,HOW.out,HB.out⟩
     case round=>
      clear HB HOW
      obtain⟨n,hn2,rfl,how,hb⟩:=hrel
      have HOW:=Lib.hid how
      have HB:=Lib.hid hb
      clear how hb
      obtain⟨qx0,qx1⟩:=(HC _ HB.out).out
      have rx0:=(HZ _ HB.out.size).out
      have HX:=Lib.hid (HW.out.trans (HB.out.mono HW.out.size))
      by_cases hln:n<en
      ·obtain⟨eb,eoff,rfl,heb,hcell⟩:=HE.out.row (by omega)
       obtain⟨e,hev⟩: ∃e,p.es[n]? =some e:=⟨_,List.getElem?_eq_getElem (by have:=HM.out;omega)⟩
       have hei:hasV p.vs e.a=true∧hasV p.vs e.b=true:=by
        obtain⟨A,D,ho⟩:=HR.out.e n e hev
        exact⟨hasV_iff.2 ⟨A,ho.pa⟩,hasV_iff.2 ⟨D,ho.pb⟩⟩
       obtain⟨ha1,ha2⟩:=placeV_at hei.1
       obtain⟨hb1,hb2⟩:=placeV_at hei.2
       have HVA:=fun(W1:World) (hb:Below w.heap.size w W1)=>HVX W1 hb e.a (some ⟨eb,eoff,none⟩)
       have HVB:=fun(W1:World) (hb:Below w.heap.size w W1)=>HVX W1 hb e.b (some ⟨eb,eoff,none⟩)
       rw[ha2] at HVA
       rw[hb2] at HVB
       have HCE:=fun(W1:World) (hb:Below w.heap.size w W1)=>Lib.hid (hcell W1 (hb.mono hB) n e hev)
       have HFS:=Lib.hid (show((placesE p).take (n+1)).foldl relax (roundsL (placesE p) k)=relax (((placesE p).take n).foldl relax (roundsL (placesE p) k)) (placeV p.vs e.a,placeV p.vs e.b) from by
        rw[take_snoc' (v:=(placeV p.vs e.a,placeV p.vs e.b)) (by unfold placesE;rw[List.getElem?_map,hev];rfl),List.foldl_append]
        rfl)
       have hpa:placeV p.vs e.a<vn:=by have:=(List.getElem?_eq_some_iff.1 ha1).1;have:=HL.out;omega
       have hpb:placeV p.vs e.b<vn:=by have:=(List.getElem?_eq_some_iff.1 hb1).1;have:=HL.out;omega
       have hbd: ∀v,((placesE p).take n).foldl relax (roundsL (placesE p) k) v≤v:=fun v=>Nat.le_trans (relaxs_bd _ _ _) (rounds_bd _ _ _)
       generalize placeV p.vs e.a=pa at HVA HFS hpa
       generalize placeV p.vs e.b=pb at HVB HFS hpb
       obtain⟨F,hF⟩: ∃F,F=((placesE p).take n).foldl relax (roundsL (placesE p) k):=⟨_,rfl⟩
       rw[←hF] at HFS HOW hbd
       have hbda:=hbd pa
       have hbdb:=hbd pb
       clear hcell hev hei ha1 ha2 hb1 hb2 hbd hF
       obtain⟨g,cap,eqs⟩:=ownsRow_form HOW.out (by omega)
       injection eqs with eq1 eq2 eq3
       subst eq1 eq3
       clear eq2
       go_wp2_with fail
       refine wp_name (fun c5 hc5=> ?_)
       have HB:=bnm HB HBW hc5
       have HXC:=Lib.hid (hc5▸HX.out);have HOC:=Lib.hid (hc5▸HOW.out);have HVAL:=fun(x0:Later c5)=>HVA x0.1 (below_step x0.2 HXC.out);have HVBL:=fun(x0:Later c5)=>HVB x0.1 (below_step x0.2 HXC.out);have y9:=fun(x0:Later c5)=>(HCE x0.1 (below_step x0.2 HXC.out)).out.2
       clear hc5
       have xx:=fun(x:Later c5)=>(HC _ (bnl HB HBW x.2)).out
       simp only[forall_and] at xx
       obtain⟨xx0,xx1⟩:=xx
       refine wp_region_later (by kernel_rfl) (by kernel_rfl) ?_
       repeat (first|go_big_quiet_step (((first|(go_at_call 23;with_reducible refine Later.call (HVAL _).out)|(go_at_call 23;with_reducible refine Later.call (HVBL _).out))))|quiet_step (((first|(go_at_call 23;with_reducible refine Later.call (HVAL _).out)|(go_at_call 23;with_reducible refine Later.call (HVBL _).out)))))
       refine wpQuiet_nil ?_
       intro wt hw5
       have hb5:=later_below hw5
       clear hw5
       have HB:=Lib.hid (bnl HB HBW hb5)
       clear xx0 xx1
       clear qx0 qx1 rx0
       obtain⟨qx0,qx1⟩:=(HC _ HB.out).out
       have HX:=Lib.hid (below_step hb5 HXC.out);have HOW:=Lib.hid (ownsRow_touch HOC.out (Touch.of_below (F:=[]) hb5) (by simp))
       clear hb5
       have rx0:=(HZ _ HB.out.size).out
       rcases Nat.lt_trichotomy (F pa) (F pb) with hc|hc|hc
       ·have hc1:(F pa:Int)<(F pb:Int):=by omega
        go_wp2_with fail
        refine wp_name (fun c6 hc6=> ?_)
        have HB:=bnm HB HBW hc6
        have HXC:=Lib.hid (hc6▸HX.out);have HOC:=Lib.hid (hc6▸HOW.out);have y8:=fun(x0:Later c6)=>rowN_cell (ownsRow_touch HOC.out (Touch.of_below (F:=[]) x0.2) (by simp)) hpa;have y9:=fun(x0:Later c6)=>rowN_cell (ownsRow_touch HOC.out (Touch.of_below (F:=[]) x0.2) (by simp)) hpb
        clear hc6
        have xx:=fun(x:Later c6)=>(HC _ (bnl HB HBW x.2)).out
        simp only[forall_and] at xx
        obtain⟨xx0,xx1⟩:=xx
        refine wp_region_later (by kernel_rfl) (by kernel_rfl) ?_
        repeat (first|go_big_quiet_step ((fail))|quiet_step ((fail)))
        refine wpQuiet_nil ?_
        intro wu hw6
        have hb6:=later_below hw6
        clear hw6
        have HB:=Lib.hid (bnl HB HBW hb6)
        clear xx0 xx1
        clear qx0 qx1 rx0
        obtain⟨qx0,qx1⟩:=(HC _ HB.out).out
        have HX:=Lib.hid (below_step hb6 HXC.out);have HOW:=Lib.hid (ownsRow_touch HOC.out (Touch.of_below (F:=[]) hb6) (by simp))
        clear hb6
        have rx0:=(HZ _ HB.out.size).out
        have c8:=rowN_cell HOW.out hpa
        have c9:=rowN_cell HOW.out hpb
        have f8:=fun i=>own_fz HOW.out i
        have hgl:=(HOW.out.lt g rfl).2
        have hgw:=(HOW.out.lt g rfl).1
        go_wp2_with fail
        have hf1:=relax_l hc pb
        have hf2:=relax_l hc pa
        have HOW:=Lib.hid (show(wu.setCell ⟨g,pb,none⟩ (.int .i64 (F pa))).ownsRow W.heap.size 3 1 (.slice (some ⟨g,0,none⟩) vn oc) vn (intC (rowN vn (relax F (pa,pb)))) from by
         have h:=own_set HOW.out (j:=pb) (by omega) (.int .i64 (F pa))
         rw[rowN_set (F pa) (relax_l hc)] at h
         exact h)
        have HX:=Lib.hid (HX.out.setCell (p:=⟨g,pb,none⟩) (by have:=HWs.out;show _≤g;omega) (.int .i64 (F pa)))
        have HB:=Lib.hid (HB.out.setCell (p:=⟨g,pb,none⟩) hgw (.int .i64 (F pa)))
        rw[if_pos rfl] at hf1
        rw[if_neg (by intro e;subst e;omega)] at hf2
        generalize relax F (pa,pb)=F2 at HOW HFS hf1 hf2
        have hc2: ¬(F2 pb:Int)<(F2 pa:Int):=by omega
        clear c8 c9 f8 hgl hgw hc hc1 hf1 hf2
        refine wp_name (fun c7 hc7=> ?_)
        have HB:=bnm HB HBW hc7
        have HXC:=Lib.hid (hc7▸HX.out);have HOC:=Lib.hid (hc7▸HOW.out);have y8:=fun(x0:Later c7)=>rowN_cell (ownsRow_touch HOC.out (Touch.of_below (F:=[]) x0.2) (by simp)) hpa;have y9:=fun(x0:Later c7)=>rowN_cell (ownsRow_touch HOC.out (Touch.of_below (F:=[]) x0.2) (by simp)) hpb
        clear hc7
        have xx:=fun(x:Later c7)=>(HC _ (bnl HB HBW x.2)).out
        simp only[forall_and] at xx
        obtain⟨xx0,xx1⟩:=xx
        refine wp_region_later (by kernel_rfl) (by kernel_rfl) ?_
        repeat (first|go_big_quiet_step ((fail))|quiet_step ((fail)))
        refine wpQuiet_nil ?_
        intro wv hw7
        have hb7:=later_below hw7
        clear hw7
        have HB:=Lib.hid (bnl HB HBW hb7)
        clear xx0 xx1
        clear qx0 qx1 rx0
        obtain⟨qx0,qx1⟩:=(HC _ HB.out).out
        have HX:=Lib.hid (below_step hb7 HXC.out);have HOW:=Lib.hid (ownsRow_touch HOC.out (Touch.of_below (F:=[]) hb7) (by simp))
        clear hb7
        have rx0:=(HZ _ HB.out.size).out
        go_wp2_with fail
        go_roundw
        case rel=>exact⟨n+1,by omega,by go_num,by rw[HFS.out];exact HOW.out,HB.out⟩
        case measure=>simp[intOf];omega
       ·have hc1: ¬(F pa:Int)<(F pb:Int):=by omega
        have hc2: ¬(F pb:Int)<(F pa:Int):=by omega
        have HRE:=Lib.hid (relax_e hc)
        clear hc
        go_wp2_with fail
        refine wp_name (fun c8 hc8=> ?_)
        have HB:=bnm HB HBW hc8
        have HXC:=Lib.hid (hc8▸HX.out);have HOC:=Lib.hid (hc8▸HOW.out);have y8:=fun(x0:Later c8)=>rowN_cell (ownsRow_touch HOC.out (Touch.of_below (F:=[]) x0.2) (by simp)) hpa;have y9:=fun(x0:Later c8)=>rowN_cell (ownsRow_touch HOC.out (Touch.of_below (F:=[]) x0.2) (by simp)) hpb
        clear hc8
        have xx:=fun(x:Later c8)=>(HC _ (bnl HB HBW x.2)).out
        simp only[forall_and] at xx
        obtain⟨xx0,xx1⟩:=xx
        refine wp_region_later (by kernel_rfl) (by kernel_rfl) ?_
        repeat (first|go_big_quiet_step ((fail))|quiet_step ((fail)))
        refine wpQuiet_nil ?_
        intro wu hw8
        have hb8:=later_below hw8
        clear hw8
        have HB:=Lib.hid (bnl HB HBW hb8)
        clear xx0 xx1
        clear qx0 qx1 rx0
        obtain⟨qx0,qx1⟩:=(HC _ HB.out).out
        have HX:=Lib.hid (below_step hb8 HXC.out);have HOW:=Lib.hid (ownsRow_touch HOC.out (Touch.of_below (F:=[]) hb8) (by simp))
        clear hb8
        have rx0:=(HZ _ HB.out.size).out
        go_wp2_with fail
        refine wp_name (fun c9 hc9=> ?_)
        have HB:=bnm HB HBW hc9
        have HXC:=Lib.hid (hc9▸HX.out);have HOC:=Lib.hid (hc9▸HOW.out);have y8:=fun(x0:Later c9)=>rowN_cell (ownsRow_touch HOC.out (Touch.of_below (F:=[]) x0.2) (by simp)) hpa;have y9:=fun(x0:Later c9)=>rowN_cell (ownsRow_touch HOC.out (Touch.of_below (F:=[]) x0.2) (by simp)) hpb
        clear hc9
        have xx:=fun(x:Later c9)=>(HC _ (bnl HB HBW x.2)).out
        simp only[forall_and] at xx
        obtain⟨xx0,xx1⟩:=xx
        refine wp_region_later (by kernel_rfl) (by kernel_rfl) ?_
        repeat (first|go_big_quiet_step ((fail))|quiet_step ((fail)))
        refine wpQuiet_nil ?_
        intro wv hw9
        have hb9:=later_below hw9
        clear hw9
        have HB:=Lib.hid (bnl HB HBW hb9)
        clear xx0 xx1
        clear qx0 qx1 rx0
        obtain⟨qx0,qx1⟩:=(HC _ HB.out).out
        have HX:=Lib.hid (below_step hb9 HXC.out);have HOW:=Lib.hid (ownsRow_touch HOC.out (Touch.of_below (F:=[]) hb9) (by simp))
        clear hb9
        have rx0:=(HZ _ HB.out.size).out
        go_wp2_with fail
        go_roundw
        case rel=>exact⟨n+1,by omega,by go_num,by rw[HFS.out,HRE.out];exact HOW.out,HB.out⟩
        case measure=>simp[intOf];omega
       ·have hc1: ¬(F pa:Int)<(F pb:Int):=by omega
        have hc2:(F pb:Int)<(F pa:Int):=by omega
        go_wp2_with fail
        refine wp_name (fun c10 hc10=> ?_)
        have HB:=bnm HB HBW hc10
        have HXC:=Lib.hid (hc10▸HX.out);have HOC:=Lib.hid (hc10▸HOW.out);have y8:=fun(x0:Later c10)=>rowN_cell (ownsRow_touch HOC.out (Touch.of_below (F:=[]) x0.2) (by simp)) hpa;have y9:=fun(x0:Later c10)=>rowN_cell (ownsRow_touch HOC.out (Touch.of_below (F:=[]) x0.2) (by simp)) hpb
        clear hc10
        have xx:=fun(x:Later c10)=>(HC _ (bnl HB HBW x.2)).out
        simp only[forall_and] at xx
        obtain⟨xx0,xx1⟩:=xx
        refine wp_region_later (by kernel_rfl) (by kernel_rfl) ?_
        repeat (first|go_big_quiet_step ((fail))|quiet_step ((fail)))
        refine wpQuiet_nil ?_
        intro wu hw10
        have hb10:=later_below hw10
        clear hw10
        have HB:=Lib.hid (bnl HB HBW hb10)
        clear xx0 xx1
        clear qx0 qx1 rx0
        obtain⟨qx0,qx1⟩:=(HC _ HB.out).out
        have HX:=Lib.hid (below_step hb10 HXC.out);have HOW:=Lib.hid (ownsRow_touch HOC.out (Touch.of_below (F:=[]) hb10) (by simp))
        clear hb10
        have rx0:=(HZ _ HB.out.size).out
        go_wp2_with fail
        refine wp_name (fun c11 hc11=> ?_)
        have HB:=bnm HB HBW hc11
        have HXC:=Lib.hid (hc11▸HX.out);have HOC:=Lib.hid (hc11▸HOW.out);have y8:=fun(x0:Later c11)=>rowN_cell (ownsRow_touch HOC.out (Touch.of_below (F:=[]) x0.2) (by simp)) hpa;have y9:=fun(x0:Later c11)=>rowN_cell (ownsRow_touch HOC.out (Touch.of_below (F:=[]) x0.2) (by simp)) hpb
        clear hc11
        have xx:=fun(x:Later c11)=>(HC _ (bnl HB HBW x.2)).out
        simp only[forall_and] at xx
        obtain⟨xx0,xx1⟩:=xx
        refine wp_region_later (by kernel_rfl) (by kernel_rfl) ?_
        repeat (first|go_big_quiet_step ((fail))|quiet_step ((fail)))
        refine wpQuiet_nil ?_
        intro wv hw11
        have hb11:=later_below hw11
        clear hw11
        have HB:=Lib.hid (bnl HB HBW hb11)
        clear xx0 xx1
        clear qx0 qx1 rx0
        obtain⟨qx0,qx1⟩:=(HC _ HB.out).out
        have HX:=Lib.hid (below_step hb11 HXC.out);have HOW:=Lib.hid (ownsRow_touch HOC.out (Touch.of_below (F:=[]) hb11) (by simp))
        clear hb11
        have rx0:=(HZ _ HB.out.size).out
        have c8:=rowN_cell HOW.out hpa
        have c9:=rowN_cell HOW.out hpb
        have f8:=fun i=>own_fz HOW.out i
        have hgl:=(HOW.out.lt g rfl).2
        have hgw:=(HOW.out.lt g rfl).1
        go_wp2_with fail
        have HOW:=Lib.hid (show(wv.setCell ⟨g,pa,none⟩ (.int .i64 (F pb))).ownsRow W.heap.size 3 1 (.slice (some ⟨g,0,none⟩) vn oc) vn (intC (rowN vn (relax F (pa,pb)))) from by
         have h:=own_set HOW.out (j:=pa) (by omega) (.int .i64 (F pb))
         rw[rowN_set (F pb) (relax_r hc)] at h
         exact h)
        have HB:=Lib.hid (HB.out.setCell (p:=⟨g,pa,none⟩) hgw (.int .i64 (F pb)))
        go_roundw
        case rel=>exact⟨n+1,by omega,by go_num,by rw[HFS.out];exact HOW.out,HB.out⟩
        case measure=>simp[intOf];omega
      ·have HT:=Lib.hid (show((placesE p).take n).foldl relax (roundsL (placesE p) k)=roundsL (placesE p) (k+1) from by
        rw[List.take_of_length_le (by unfold placesE;rw[List.length_map];have:=HM.out;omega)]
        rfl)
       go_wp2_with fail
       go_roundw
       case rel=>exact⟨k+1,by omega,by go_num,by rw[←HT.out];exact HOW.out,HB.out⟩
       case measure=>simp[intOf];omega
    ·obtain rfl:vn=k:=by omega
     go_wp2_with fail
     go_ret
     exact⟨⟨oa,oc,rfl,ownsRow_le HOW.out HW.out.size⟩,HW.out.trans (HB.out.mono HW.out.size)⟩
end Go.Proofs.YthopjhifepijiaaGreat
namespace Go.Proofs.YthopjhifepijiaaGreat
open Go.RowKit Go.Joins
def bestK (p:PL) (q:Pt) (but:Int) (k:Nat):Int:=(List.range k).foldl (bestS ((orsP p).map (ouOf (pieceR p))) q but) (-1)
theorem bestK_succ (p:PL) (q:Pt) (but:Int) (k:Nat):bestK p q but (k+1)=bestS ((orsP p).map (ouOf (pieceR p))) q but (bestK p q but k) k:=by
 unfold bestK
 rw[List.range_succ,List.foldl_append]
 rfl
theorem bestK_bd (p:PL) (q:Pt) (but:Int): ∀k, -1≤bestK p q but k∧bestK p q but k<k
 |0=>by show(-1:Int)≤ -1∧(-1:Int)<0;decide
 |k+1=>by
  have ih:=bestK_bd p q but k
  rw[bestK_succ]
  unfold bestS
  split
  ·split<;>omega
  ·omega
theorem ou_at {p:PL} {k:Nat} {L:List Hf} (h:(outersP p)[k]? =some L):((orsP p).map (ouOf (pieceR p)))[k]? =some ⟨L.map (lineH p),areaH p L,pieceR p (frA p L)⟩:=by
 unfold orsP
 rw[List.getElem?_map,List.getElem?_map,h]
 rfl
theorem outer_mem {p:PL} {L:List Hf} (h:L∈outersP p):L∈ringsP p:=(List.mem_filter.1 h).1
theorem areaL_bd (l:List (Pt × Pt)) (h:inL l): -(l.length:Int)*144115188075855872≤areaL l∧areaL l≤(l.length:Int)*144115188075855872:=by
 revert h
 refine list_rev (P:=fun l=>inL l→ -(l.length:Int)*144115188075855872≤areaL l∧areaL l≤(l.length:Int)*144115188075855872) (fun _=>by decide) (fun l x ih h=> ?_) l
 have h1:=ih (fun y hy=>h y (by simp[hy]))
 have hx:=h x (by simp)
 have ha:=inB_iff.1 hx.1
 have hb:=inB_iff.1 hx.2
 have b1:=prod_bd ha.1 ha.2.1 hb.2.2.1 hb.2.2.2
 have b2:=prod_bd hb.1 hb.2.1 ha.2.2.1 ha.2.2.2
 rw[areaL_snoc,List.length_append]
 exact bd_next h1 (by omega)
theorem area_bdN {p:PL} (r:RightP p) {L:List Hf} (h:L∈ringsP p) (hl:L.length≤200):bdN (areaH p L):=by
 obtain⟨h0,m,hr⟩:=r.rings.1 L h
 have:=areaL_bd (L.map (lineH p)) (r.lines_in (fun x hx=>(hr.mem x hx).1))
 rw[List.length_map] at this
 exact bdN_of this (by omega)
theorem cmpN_lt {x y:Int} (h:x<y):cmpN x y= -1:=by unfold cmpN;rw[if_pos h]
theorem cmpN_ge {x y:Int} (h: ¬x<y): ¬cmpN x y<0:=by unfold cmpN;rw[if_neg h];split<;>omega
theorem withinD_ring {p:PL} (r:RightP p) {q:Pt} (hq:inB q=true) {L:List Hf} (h:L∈ringsP p):withinD p L q=(!touchB (L.map (lineH p)) q&&oddB (L.map (lineH p)) q):=by
 obtain⟨h0,m,hr⟩:=r.rings.1 L h
 have hm: ∀x∈L,x∈halvesE p.es:=fun x hx=>(hr.mem x hx).1
 have hk:=known_of hm
 unfold withinD
 rw[rightR_iff.2 r,show(L.all fun h=>hasE p.es h.edge)=true from hk,hq,known_lines hk,withinR_eq hq (r.lines_in hm)]
 simp
theorem best_step {p:PL} {q:Pt} {but pv:Int} {k:Nat} {L:List Hf} {wd:Bool} (ho:((orsP p).map (ouOf (pieceR p)))[k]? =some ⟨L.map (lineH p),areaH p L,pieceR p (frA p L)⟩) (hp:pieceR p (frA p L)=pv) (hw:wd=(!touchB (L.map (lineH p)) q&&oddB (L.map (lineH p)) q)):
  bestK p q but (k+1)=if (¬pv=but∧wd=true)∧(bestK p q but k<0∨areaH p L<((((orsP p).map (ouOf (pieceR p)))[(bestK p q but k).toNat]?).map (·.area)).getD 0) then(k:Int) else bestK p q but k:=by
 rw[bestK_succ]
 unfold bestS
 rw[ho]
 simp only
 unfold arndB
 simp only
 rw[hp,hw]
 by_cases h1:pv=but
 ·simp[h1]
 ·cases touchB (L.map (lineH p)) q<;>cases oddB (L.map (lineH p)) q<;>simp[h1]
set_option maxRecDepth 100000 in
set_option maxHeartbeats 16000000 in
theorem r17least_any {w:World} {B vn vc en ec rn rc pc:Nat} {va ea ra pa:Option Addr} {p:PL} (r:RightP p) (hv:VsIn w B va vn p.vs) (he:EsIn w B ea en p.es) (hrg:RgIn w B ra rn (outersP p)) (hps:NsIn w B pa vn (rowN vn (roundsL (placesE p) vn))) (q:Pt) (hq:inB q=true) (hB:B≤w.heap.size) (hec:en≤ec) (hfew:en≤100) (but:Int):
  Calls Tryz.prog 35 #[.agg #[.slice va vn vc, .slice ea en ec], .slice ra rn rc, .agg #[.int .i64 q.x, .int .i64 q.y], .slice pa vn pc, .int .i64 but] w fun e w'=>e= .returned (.int .i64 (aroundP ((orsP p).map (ouOf (pieceR p))) q but))∧Below w.heap.size w w':=by
 have hvn:vn≤512:=by have:=r.nv;have:=hv.1;omega
 have hrn:rn≤400:=by
  have h1:=hrg.1
  have h2:(outersP p).length≤(ringsP p).length:=List.length_filter_le _ _
  have:=r.rings_few
  have:=he.1
  omega
 have HF:=fun(W:World) (hb:Below w.heap.size w W) (h:Hf) (hk:hasE p.es h.edge=true)=>Lib.hid (r16from_any (w:=W) (ec:=ec) (he.below (hb.mono hB)) (Nat.le_trans hB hb.size) (by omega) (.slice va vn vc) ⟨_,_,_,rfl⟩ h hk)
 have HVX:=fun(W:World) (hb:Below w.heap.size w W) (id:Int)=>Lib.hid (r15vertex_any (w:=W) (vc:=vc) (hv.below (hb.mono hB)) (Nat.le_trans hB hb.size) (by omega) (.slice ea en ec) ⟨_,_,_,rfl⟩ id)
 have HWI:=fun(W:World) (hb:Below w.heap.size w W) (a:Option Addr) (n c:Nat) (L:List Hf) (hl:HsIn W B a n L) (hn:n≤2000)=>Lib.hid (r17within_any (w:=W) (vc:=vc) (ec:=ec) (c:=c) q (hv.below (hb.mono hB)) (he.below (hb.mono hB)) hl (Nat.le_trans hB hb.size) hec (by omega) (by omega) (by omega))
 have HAR:=fun(W:World) (hb:Below w.heap.size w W) (a:Option Addr) (n c:Nat) (L:List Hf) (hl:HsIn W B a n L) (hn:n≤2000)=>Lib.hid (r17area_any (w:=W) (vc:=vc) (ec:=ec) (c:=c) (hv.below (hb.mono hB)) (he.below (hb.mono hB)) hl (Nat.le_trans hB hb.size) hec (by omega) (by omega) hn)
 have HRG:=Lib.hid hrg
 have HPS:=Lib.hid hps
 have HR:=Lib.hid r
 have HQ:=Lib.hid hq
 have HLN:=Lib.hid hrg.1
 have HVL:=Lib.hid hv.1
 have HM:=Lib.hid he.1
 have HAL:=Lib.hid (show aroundP ((orsP p).map (ouOf (pieceR p))) q but=bestK p q but rn from by
  unfold aroundP bestK
  rw[show((orsP p).map (ouOf (pieceR p))).length=rn from by unfold orsP;rw[List.length_map,List.length_map,hrg.1]])
 clear hv he hrg hps r hq
 go_enter Tryz.func35,Tryz.ntmps35
 go_wp2_with fail
 first|refine wp_name (fun W hW=> ?_)|refine calls_name (fun W hW=> ?_)
 have HW:Hid (Below w.heap.size w W):=Lib.hid (by rw[←hW];repeat (first|exact Below.refl _ _|refine below_alloc ?_))
 have HWs:Hid (W.heap.size=w.heap.size+1+1):=Lib.hid (by rw[←hW];simp)
 have HBW:Hid (W.heap.size≤W.heap.size):=Lib.hid (by have:=HWs.out;omega)
 have HC:=fun(W1:World) (hb:Below (W.heap.size) W W1)=>Lib.hid (show W1.cell? ⟨w.heap.size,0,none⟩=some (.slice va vn vc)∧W1.cell? ⟨w.heap.size,1,none⟩=some (.slice ea en ec)∧W1.cell? ⟨w.heap.size+1,0,none⟩=some (.int .i64 q.x)∧W1.cell? ⟨w.heap.size+1,1,none⟩=some (.int .i64 q.y) from by have hs:=HWs.out;refine⟨?_, ?_, ?_, ?_⟩<;>(refine(hb.cell (by dsimp only;omega)).trans ?_;rw[←hW];clear hW;go_simp))
 have HB:=Lib.hid (Below.refl (W.heap.size) W)
 clear hW
 have HZ:=fun(W1:World) (hb:W.heap.size≤W1.heap.size)=>Lib.hid (show w.heap.size<W1.heap.size∧w.heap.size+1<W1.heap.size from by have:=HWs.out;refine⟨?_, ?_⟩<;>omega)
 obtain⟨qx0,qx1,qx2,qx3⟩:=(HC _ HB.out).out
 obtain⟨rx0,rx1⟩:=(HZ _ HB.out.size).out
 clear qx0 qx1 qx2 qx3 rx0 rx1
 go_loopw [11,12] (fun bv v wr=> ∃k:Nat,k≤rn∧v= .int .i64 k∧bv= .int .i64 (bestK p q but k)∧Below W.heap.size W wr) (fun _ v _=>rn - (intOf v).toNat)
 case atStart=>exact⟨0,Nat.zero_le _,rfl,rfl,HB.out⟩
 case round=>
  clear HB
  obtain⟨k,hk,rfl,rfl,hb⟩:=hrel
  have HB:=Lib.hid hb
  have HX:=Lib.hid (HW.out.trans (hb.mono HW.out.size))
  clear hb
  obtain⟨qx0,qx1,qx2,qx3⟩:=(HC _ HB.out).out
  obtain⟨rx0,rx1⟩:=(HZ _ HB.out.size).out
  by_cases hlt:k<rn
  ·obtain⟨L,hL⟩: ∃L,(outersP p)[k]? =some L:=⟨_,List.getElem?_eq_getElem (by have:=HLN.out;omega)⟩
   have hmem:=outer_mem (List.mem_of_getElem? hL)
   obtain⟨h0,m0,hring⟩:=HR.out.rings.1 L hmem
   obtain⟨x,L',hLx⟩: ∃x L',L=x::L':=by
    cases L with
    |nil=>exact absurd rfl hring.ne
    |cons x L'=>exact⟨x,L',rfl⟩
   have hxm:x∈halvesE p.es:=(hring.mem x (by rw[hLx];simp)).1
   have hrl:L.length≤200:=by have:=ring_len HR.out hmem;have:=HM.out;omega
   obtain⟨lb,loff,rfl,hlb,hcell⟩:=HRG.out.row (by omega)
   obtain⟨la,lc,hrw⟩:=hcell k L hL
   obtain⟨xb,xoff,rfl,hxb,hxc⟩:=(hrw w (Below.refl _ _)).2.row (by rw[hLx];simp)
   have HRW:=fun(W1:World) (hb:Below w.heap.size w W1)=>Lib.hid (hrw W1 (hb.mono hB))
   have HXC:=fun(W1:World) (hb:Below w.heap.size w W1)=>Lib.hid (show W1.cell? ⟨xb,xoff,none⟩=some (.int .i64 x.edge)∧W1.cell? ⟨xb,xoff+1,none⟩=some (.bool x.back) from by have h9:=hxc W1 (hb.mono hB) 0 x (by rw[hLx];rfl);simpa using h9)
   have hiv:=(HR.out.halfIn (mem_known hxm)).from_
   obtain⟨hp1,hp2⟩:=placeV_at hiv
   have hpl:placeV p.vs (fromH p.es x)<vn:=by have:=(List.getElem?_eq_some_iff.1 hp1).1;have:=HVL.out;omega
   obtain⟨pb,poff,rfl,hpb,hpc⟩:=HPS.out.row (by omega)
   have HPC:=fun(W1:World) (hb:Below w.heap.size w W1)=>Lib.hid (hpc W1 (hb.mono hB) _ _ (rowN_get hpl))
   have HOU:=Lib.hid (ou_at hL)
   have HPI:=Lib.hid (show pieceR p (frA p L)=(roundsL (placesE p) vn (placeV p.vs (fromH p.es x)):Nat) from by
    rw[←HR.out.piece_from HR.out.pieceR_fn hmem,hLx,HVL.out]
    rfl)
   have HFX:=fun(W1:World) (hb:Below w.heap.size w W1)=>HF W1 hb x (mem_known hxm)
   have HVA:=fun(W1:World) (hb:Below w.heap.size w W1)=>HVX W1 hb (fromH p.es x)
   rw[hp2] at HVA
   have HWD:=Lib.hid (withinD_ring HR.out HQ.out hmem)
   have HW1:=fun(W1:World) (hb:Below w.heap.size w W1)=>HWI W1 hb (some ⟨xb,xoff,none⟩) L.length lc L ((HRW W1 hb).out.2) (by omega)
   have HST:=Lib.hid (best_step (but:=but) HOU.out HPI.out HWD.out)
   have hb0:=bestK_bd p q but k
   have hlpos:0<L.length:=by rw[hLx];simp
   generalize fromH p.es x=fx at*
   generalize placeV p.vs fx=pl at*
   generalize roundsL (placesE p) vn pl=pv at*
   generalize withinD p L q=wd at*
   obtain⟨b,hbst⟩: ∃b,b=bestK p q but k:=⟨_,rfl⟩
   rw[←hbst] at HST hb0 ⊢
   have HCL:=Lib.hid hcell
   have HBD:=Lib.hid (area_bdN HR.out hmem hrl)
   have HAP:=Lib.hid (area_ring HR.out hmem)
   clear hL hmem hring hLx hxm hcell hrw hxc hpc hiv hp1 hp2 hbst
   cases hpe:((pv:Int)==but)
   ·have hpe2: ¬(pv:Int)=but:=by simpa using hpe
    cases wd
    ·have HN:=Lib.hid (show bestK p q but (k+1)=b from by rw[HST.out,if_neg (by simp)])
     clear hpe2
     go_wp2_with fail
     refine wp_name (fun c3 hc3=> ?_)
     have HB:=bnm HB HBW hc3
     have HXC2:=Lib.hid (hc3▸HX.out);have HFXL:=fun(x0:Later c3)=>HFX x0.1 (below_step x0.2 HXC2.out);have HVAL:=fun(x0:Later c3)=>HVA x0.1 (below_step x0.2 HXC2.out);have HW1L:=fun(x0:Later c3)=>HW1 x0.1 (below_step x0.2 HXC2.out);have y7:=fun(x0:Later c3)=>(HRW x0.1 (below_step x0.2 HXC2.out)).out.1;have y8:=fun(x0:Later c3)=>(HXC x0.1 (below_step x0.2 HXC2.out)).out;have y9:=fun(x0:Later c3)=>(HPC x0.1 (below_step x0.2 HXC2.out)).out
     clear hc3
     have xx:=fun(x:Later c3)=>(HC _ (bnl HB HBW x.2)).out
     simp only[forall_and] at xx
     obtain⟨xx0,xx1,xx2,xx3⟩:=xx
     refine wp_region_later (by kernel_rfl) (by kernel_rfl) ?_
     repeat (first|go_big_quiet_step (((first|(go_at_call 33;with_reducible refine Later.call (HFXL _).out)|(go_at_call 23;with_reducible refine Later.call (HVAL _).out)|(go_at_call 67;with_reducible refine Later.call (HW1L _).out))))|quiet_step (((first|(go_at_call 33;with_reducible refine Later.call (HFXL _).out)|(go_at_call 23;with_reducible refine Later.call (HVAL _).out)|(go_at_call 67;with_reducible refine Later.call (HW1L _).out)))))
     refine wpQuiet_nil ?_
     intro wt hw3
     have hb3:=later_below hw3
     clear hw3
     have HB:=Lib.hid (bnl HB HBW hb3)
     clear xx0 xx1 xx2 xx3
     clear qx0 qx1 qx2 qx3 rx0 rx1
     obtain⟨qx0,qx1,qx2,qx3⟩:=(HC _ HB.out).out
     have HX:=Lib.hid (below_step hb3 HXC2.out)
     clear hb3
     obtain⟨rx0,rx1⟩:=(HZ _ HB.out.size).out
     go_wp2_with fail
     go_roundw
     case rel=>exact⟨k+1,by omega,by go_num,by rw[HN.out],HB.out⟩
     case measure=>simp[intOf];omega
    ·have HST2:=Lib.hid (show bestK p q but (k+1)=if b<0∨areaH p L<((((orsP p).map (ouOf (pieceR p)))[b.toNat]?).map (·.area)).getD 0 then(k:Int) else b from by rw[HST.out];simp only[hpe2,not_false_eq_true,true_and])
     clear hpe2
     go_wp2_with fail
     refine wp_name (fun c4 hc4=> ?_)
     have HB:=bnm HB HBW hc4
     have HXC2:=Lib.hid (hc4▸HX.out);have HFXL:=fun(x0:Later c4)=>HFX x0.1 (below_step x0.2 HXC2.out);have HVAL:=fun(x0:Later c4)=>HVA x0.1 (below_step x0.2 HXC2.out);have HW1L:=fun(x0:Later c4)=>HW1 x0.1 (below_step x0.2 HXC2.out);have y7:=fun(x0:Later c4)=>(HRW x0.1 (below_step x0.2 HXC2.out)).out.1;have y8:=fun(x0:Later c4)=>(HXC x0.1 (below_step x0.2 HXC2.out)).out;have y9:=fun(x0:Later c4)=>(HPC x0.1 (below_step x0.2 HXC2.out)).out
     clear hc4
     have xx:=fun(x:Later c4)=>(HC _ (bnl HB HBW x.2)).out
     simp only[forall_and] at xx
     obtain⟨xx0,xx1,xx2,xx3⟩:=xx
     refine wp_region_later (by kernel_rfl) (by kernel_rfl) ?_
     repeat (first|go_big_quiet_step (((first|(go_at_call 33;with_reducible refine Later.call (HFXL _).out)|(go_at_call 23;with_reducible refine Later.call (HVAL _).out)|(go_at_call 67;with_reducible refine Later.call (HW1L _).out))))|quiet_step (((first|(go_at_call 33;with_reducible refine Later.call (HFXL _).out)|(go_at_call 23;with_reducible refine Later.call (HVAL _).out)|(go_at_call 67;with_reducible refine Later.call (HW1L _).out)))))
     refine wpQuiet_nil ?_
     intro wt hw4
     have hb4:=later_below hw4
     clear hw4
     have HB:=Lib.hid (bnl HB HBW hb4)
     clear xx0 xx1 xx2 xx3
     clear qx0 qx1 qx2 qx3 rx0 rx1
     obtain⟨qx0,qx1,qx2,qx3⟩:=(HC _ HB.out).out
     have HX:=Lib.hid (below_step hb4 HXC2.out)
     clear hb4
     obtain⟨rx0,rx1⟩:=(HZ _ HB.out.size).out
     go_wp2_with fail
     by_cases hbn:b<0
     ·have HN:=Lib.hid (show bestK p q but (k+1)=k from by rw[HST2.out,if_pos (.inl hbn)])
      refine wp_name (fun c5 hc5=> ?_)
      have HB:=bnm HB HBW hc5
      have HXC2:=Lib.hid (hc5▸HX.out);have HFXL:=fun(x0:Later c5)=>HFX x0.1 (below_step x0.2 HXC2.out);have HVAL:=fun(x0:Later c5)=>HVA x0.1 (below_step x0.2 HXC2.out);have HW1L:=fun(x0:Later c5)=>HW1 x0.1 (below_step x0.2 HXC2.out);have y7:=fun(x0:Later c5)=>(HRW x0.1 (below_step x0.2 HXC2.out)).out.1;have y8:=fun(x0:Later c5)=>(HXC x0.1 (below_step x0.2 HXC2.out)).out;have y9:=fun(x0:Later c5)=>(HPC x0.1 (below_step x0.2 HXC2.out)).out
      clear hc5
      have xx:=fun(x:Later c5)=>(HC _ (bnl HB HBW x.2)).out
      simp only[forall_and] at xx
      obtain⟨xx0,xx1,xx2,xx3⟩:=xx
      refine wp_region_later (by kernel_rfl) (by kernel_rfl) ?_
      repeat (first|go_big_quiet_step (((first|(go_at_call 33;with_reducible refine Later.call (HFXL _).out)|(go_at_call 23;with_reducible refine Later.call (HVAL _).out)|(go_at_call 67;with_reducible refine Later.call (HW1L _).out))))|quiet_step (((first|(go_at_call 33;with_reducible refine Later.call (HFXL _).out)|(go_at_call 23;with_reducible refine Later.call (HVAL _).out)|(go_at_call 67;with_reducible refine Later.call (HW1L _).out)))))
      refine wpQuiet_nil ?_
      intro wt hw5
      have hb5:=later_below hw5
      clear hw5
      have HB:=Lib.hid (bnl HB HBW hb5)
      clear xx0 xx1 xx2 xx3
      clear qx0 qx1 qx2 qx3 rx0 rx1
      obtain⟨qx0,qx1,qx2,qx3⟩:=(HC _ HB.out).out
      have HX:=Lib.hid (below_step hb5 HXC2.out)
      clear hb5
      obtain⟨rx0,rx1⟩:=(HZ _ HB.out.size).out
      go_wp2_with fail
      go_roundw
      case rel=>exact⟨k+1,by omega,by go_num,by rw[HN.out],HB.out⟩
      case measure=>simp[intOf];omega
     ·obtain⟨j,rfl⟩: ∃j:Nat,b=j:=⟨b.toNat,by omega⟩
      have hjr:j<rn:=by omega
      obtain⟨L2,hL2⟩: ∃L2,(outersP p)[j]? =some L2:=⟨_,List.getElem?_eq_getElem (by have:=HLN.out;omega)⟩
      have hmem2:=outer_mem (List.mem_of_getElem? hL2)
      have hrl2:L2.length≤200:=by have:=ring_len HR.out hmem2;have:=HM.out;omega
      obtain⟨a2,c2,hrw2⟩:=HCL.out j L2 hL2
      have HRW2:=fun(W1:World) (hb:Below w.heap.size w W1)=>Lib.hid (hrw2 W1 (hb.mono hB))
      have HBD2:=Lib.hid (area_bdN HR.out hmem2 hrl2)
      have HAP2:=Lib.hid (area_ring HR.out hmem2)
      have HST3:=Lib.hid (show bestK p q but (k+1)=if areaH p L<areaH p L2 then(k:Int) else j from by
       rw[HST2.out,show(j:Int).toNat=j from rfl,ou_at hL2]
       simp[hbn])
      have HA1:=fun(W1:World) (hb:Below w.heap.size w W1)=>HAR W1 hb (some ⟨xb,xoff,none⟩) L.length lc L ((HRW W1 hb).out.2) (by omega)
      have HA2:=fun(W1:World) (hb:Below w.heap.size w W1)=>HAR W1 hb a2 L2.length c2 L2 ((HRW2 W1 hb).out.2) (by omega)
      clear hL2 hmem2 hrw2
      have HBT:=HB
      have HY:=fun(w':World) (t:Below wt.heap.size wt w')=>Lib.hid (show w'.cell? ⟨w.heap.size,0,none⟩=some (.slice va vn vc)∧w'.cell? ⟨w.heap.size,1,none⟩=some (.slice ea en ec)∧w'.cell? ⟨lb,loff+k,none⟩=some (.slice (some ⟨xb,xoff,none⟩) L.length lc)∧w'.cell? ⟨lb,loff+j,none⟩=some (.slice a2 L2.length c2) from by
       obtain⟨d0,d1, -⟩:=(HC _ (HBT.out.trans (t.mono HBT.out.size))).out
       exact⟨d0,d1,(HRW _ (below_step t HX.out)).out.1,(HRW2 _ (below_step t HX.out)).out.1⟩)
      have HS0:=Lib.hid (Below.refl wt.heap.size wt).drew
      refine wp_region_noPanic ?_
      refine wp_region_par3 17 17 (by kernel_rfl) (by kernel_rfl) (by simp) (by omega) (by kernel_rfl) (by kernel_rfl) (fun w':World=>Below wt.heap.size wt w') ?_
      refine par3_move (v:= ?_) 0 (by simp only[zga,zgb,zgc];rfl) (by kernel_rfl) (by rfl) ?_ (fun _ _ _ h=>h) ?_
      rotate_left
      ·(intro w9;go_simp;try with_reducible rfl)
      simp only[Act.put,zpa,zpb,zpc]
      refine par3_move (v:= ?_) 1 (by simp only[zga,zgb,zgc];rfl) (by kernel_rfl) (by rfl) ?_ (fun _ _ _ h=>h) ?_
      rotate_left
      ·(intro w9;go_simp;try with_reducible rfl)
      simp only[Act.put,zpa,zpb,zpc]
      refine par3_move (v:= ?_) 2 (by simp only[zga,zgb,zgc];rfl) (by kernel_rfl) (by rfl) ?_ (fun _ _ _ h=>h) ?_
      rotate_left
      ·(intro w9;go_simp;try with_reducible rfl)
      simp only[Act.put,zpa,zpb,zpc]
      refine par3_read8 (v:= ?_) 3 (by simp only[zga,zgb,zgc];rfl) (by kernel_rfl) (by rfl) HS0.out ?_ (fun _ _ _ h=>h) ?_
      rotate_left
      ·(intro w9 hSw;obtain⟨y0,y1,y2,y3⟩:=(HY w9 hSw).out;clear hSw;go_simp;try with_reducible rfl)
      simp only[Act.put,zpa,zpb,zpc]
      refine par3_move (v:= ?_) 4 (by simp only[zga,zgb,zgc];rfl) (by kernel_rfl) (by rfl) ?_ (fun _ _ _ h=>h) ?_
      rotate_left
      ·(intro w9;go_simp;try with_reducible rfl)
      simp only[Act.put,zpa,zpb,zpc]
      refine par3_move (v:= ?_) 5 (by simp only[zga,zgb,zgc];rfl) (by kernel_rfl) (by rfl) ?_ (fun _ _ _ h=>h) ?_
      rotate_left
      ·(intro w9;go_simp;try with_reducible rfl)
      simp only[Act.put,zpa,zpb,zpc]
      refine par3_move (v:= ?_) 6 (by simp only[zga,zgb,zgc];rfl) (by kernel_rfl) (by rfl) ?_ (fun _ _ _ h=>h) ?_
      rotate_left
      ·(intro w9;go_simp;try with_reducible rfl)
      simp only[Act.put,zpa,zpb,zpc]
      refine par3_read8 (v:= ?_) 7 (by simp only[zga,zgb,zgc];rfl) (by kernel_rfl) (by rfl) HS0.out ?_ (fun _ _ _ h=>h) ?_
      rotate_left
      ·(intro w9 hSw;obtain⟨y0,y1,y2,y3⟩:=(HY w9 hSw).out;clear hSw;go_simp;try with_reducible rfl)
      simp only[Act.put,zpa,zpb,zpc]
      refine par3_read8 (v:= ?_) 9 (by simp only[zga,zgb,zgc];rfl) (by kernel_rfl) (by rfl) HS0.out ?_ (fun _ _ _ h=>h) ?_
      rotate_left
      ·(intro w9 hSw;obtain⟨y0,y1,y2,y3⟩:=(HY w9 hSw).out;clear hSw;go_simp;try with_reducible rfl)
      simp only[Act.put,zpa,zpb,zpc]
      refine par3_move (v:= ?_) 10 (by simp only[zga,zgb,zgc];rfl) (by kernel_rfl) (by rfl) ?_ (fun _ _ _ h=>h) ?_
      rotate_left
      ·(intro w9;go_simp;try with_reducible rfl)
      simp only[Act.put,zpa,zpb,zpc]
      refine par3_move (v:= ?_) 11 (by simp only[zga,zgb,zgc];rfl) (by kernel_rfl) (by rfl) ?_ (fun _ _ _ h=>h) ?_
      rotate_left
      ·(intro w9;go_simp;try with_reducible rfl)
      simp only[Act.put,zpa,zpb,zpc]
      refine par3_move (v:= ?_) 12 (by simp only[zga,zgb,zgc];rfl) (by kernel_rfl) (by rfl) ?_ (fun _ _ _ h=>h) ?_
      rotate_left
      ·(intro w9;go_simp;try with_reducible rfl)
      simp only[Act.put,zpa,zpb,zpc]
      refine par3_read8 (v:= ?_) 13 (by simp only[zga,zgb,zgc];rfl) (by kernel_rfl) (by rfl) HS0.out ?_ (fun _ _ _ h=>h) ?_
      rotate_left
      ·(intro w9 hSw;obtain⟨y0,y1,y2,y3⟩:=(HY w9 hSw).out;clear hSw;go_simp;try with_reducible rfl)
      simp only[Act.put,zpa,zpb,zpc]
      refine par3_nm (fun W0 hW0=> ?_)
      rw[←hW0] at HS0
      clear hW0
      refine par3_one 8 (by simp only[zga,zgb,zgc];rfl) (by kernel_rfl) (by rfl) ?_
      refine owp_call (by go_simp;constructor<;>rfl) ?_
      refine(HA1 _ (below_step HS0.out HX.out)).out.mono ?_
      rintro z W8 ⟨⟨z1,rfl,hz⟩,hb9⟩
      have HS8:=Lib.hid (below_next HS0.out HS0.out.size hb9)
      rw[HAP.out] at hz
      have HZ1:=Lib.hid hz
      refine⟨_,rfl,fun s _=>HS8.out, ?_⟩
      clear hb9 hz
      simp only[Act.put,zpa,zpb,zpc]
      refine par3_one 14 (by simp only[zga,zgb,zgc];rfl) (by kernel_rfl) (by rfl) ?_
      refine owp_call (by go_simp;constructor<;>rfl) ?_
      refine(HA2 _ (below_step HS8.out HX.out)).out.mono ?_
      rintro z W14 ⟨⟨z2,rfl,hz⟩,hb9⟩
      have HS14:=Lib.hid (below_next HS8.out HS8.out.size hb9)
      have HZ1:=Lib.hid ((HZ1.out.below hb9).mono hb9.size)
      rw[HAP2.out] at hz
      have HZ2:=Lib.hid hz
      refine⟨_,rfl,fun s _=>HS14.out, ?_⟩
      clear hb9 hz
      simp only[Act.put,zpa,zpb,zpc]
      refine par3_one 15 (by simp only[zga,zgb,zgc];rfl) (by kernel_rfl) (by rfl) ?_
      refine owp_call (by go_simp;constructor<;>rfl) ?_
      refine(r3cmp_any HZ1.out HZ2.out HBD.out HBD2.out (Nat.le_refl _)).mono ?_
      rintro z W15 ⟨rfl,hb9⟩
      have HS15:=Lib.hid (below_next HS14.out HS14.out.size hb9)
      refine⟨_,rfl,fun s _=>HS15.out, ?_⟩
      clear hb9
      simp only[Act.put,zpa,zpb,zpc]
      have HBE:=Lib.hid (HBT.out.trans (HS15.out.mono HBT.out.size))
      generalize areaH p L=A1 at HST3
      generalize areaH p L2=A2 at HST3
      by_cases hA:A1<A2
      ·have hc:cmpN A1 A2<0:=by rw[cmpN_lt hA];decide
       have HN:=Lib.hid (show bestK p q but (k+1)=k from by rw[HST3.out,if_pos hA])
       generalize cmpN A1 A2=cz at hc
       clear hA
       refine par3_move (v:= ?_) 16 (by simp only[zga,zgb,zgc];rfl) (by kernel_rfl) (by rfl) ?_ (fun _ _ _ h=>h) ?_
       rotate_left
       ·(intro w9;go_simp;try with_reducible rfl)
       simp only[Act.put,zpa,zpb,zpc]
       refine par3_tail _ (by simp only[List.drop_succ_cons,List.drop_zero];rfl) (by kernel_rfl) ?_
       go_wp2_with fail
       refine NoPanic.normal ?_
       go_wp2_with fail
       go_roundw
       case rel=>exact⟨k+1,by omega,by go_num,by rw[HN.out],HBE.out⟩
       case measure=>simp[intOf];omega
      ·have hc:=cmpN_ge hA
       have HN:=Lib.hid (show bestK p q but (k+1)=j from by rw[HST3.out,if_neg hA])
       generalize cmpN A1 A2=cz at hc
       clear hA
       refine par3_move (v:= ?_) 16 (by simp only[zga,zgb,zgc];rfl) (by kernel_rfl) (by rfl) ?_ (fun _ _ _ h=>h) ?_
       rotate_left
       ·(intro w9;go_simp;try with_reducible rfl)
       simp only[Act.put,zpa,zpb,zpc]
       refine par3_tail _ (by simp only[List.drop_succ_cons,List.drop_zero];rfl) (by kernel_rfl) ?_
       go_wp2_with fail
       refine NoPanic.normal ?_
       go_wp2_with fail
       go_roundw
       case rel=>exact⟨k+1,by omega,by go_num,by rw[HN.out],HBE.out⟩
       case measure=>simp[intOf];omega
   ·have hpe2:(pv:Int)=but:=by simpa using hpe
    have HN:=Lib.hid (show bestK p q but (k+1)=b from by rw[HST.out,if_neg (by simp[hpe2])])
    clear hpe2
    go_wp2_with fail
    refine wp_name (fun c6 hc6=> ?_)
    have HB:=bnm HB HBW hc6
    have HXC2:=Lib.hid (hc6▸HX.out);have HFXL:=fun(x0:Later c6)=>HFX x0.1 (below_step x0.2 HXC2.out);have HVAL:=fun(x0:Later c6)=>HVA x0.1 (below_step x0.2 HXC2.out);have HW1L:=fun(x0:Later c6)=>HW1 x0.1 (below_step x0.2 HXC2.out);have y7:=fun(x0:Later c6)=>(HRW x0.1 (below_step x0.2 HXC2.out)).out.1;have y8:=fun(x0:Later c6)=>(HXC x0.1 (below_step x0.2 HXC2.out)).out;have y9:=fun(x0:Later c6)=>(HPC x0.1 (below_step x0.2 HXC2.out)).out
    clear hc6
    have xx:=fun(x:Later c6)=>(HC _ (bnl HB HBW x.2)).out
    simp only[forall_and] at xx
    obtain⟨xx0,xx1,xx2,xx3⟩:=xx
    refine wp_region_later (by kernel_rfl) (by kernel_rfl) ?_
    repeat (first|go_big_quiet_step (((first|(go_at_call 33;with_reducible refine Later.call (HFXL _).out)|(go_at_call 23;with_reducible refine Later.call (HVAL _).out)|(go_at_call 67;with_reducible refine Later.call (HW1L _).out))))|quiet_step (((first|(go_at_call 33;with_reducible refine Later.call (HFXL _).out)|(go_at_call 23;with_reducible refine Later.call (HVAL _).out)|(go_at_call 67;with_reducible refine Later.call (HW1L _).out)))))
    refine wpQuiet_nil ?_
    intro wt hw6
    have hb6:=later_below hw6
    clear hw6
    have HB:=Lib.hid (bnl HB HBW hb6)
    clear xx0 xx1 xx2 xx3
    clear qx0 qx1 qx2 qx3 rx0 rx1
    obtain⟨qx0,qx1,qx2,qx3⟩:=(HC _ HB.out).out
    have HX:=Lib.hid (below_step hb6 HXC2.out)
    clear hb6
    obtain⟨rx0,rx1⟩:=(HZ _ HB.out.size).out
    go_wp2_with fail
    go_roundw
    case rel=>exact⟨k+1,by omega,by go_num,by rw[HN.out],HB.out⟩
    case measure=>simp[intOf];omega
  ·obtain rfl:rn=k:=by omega
   go_wp2_with fail
   go_ret
   exact⟨by rw[HAL.out];rfl,bfn HW HB⟩
end Go.Proofs.YthopjhifepijiaaGreat
namespace Go.Proofs.YthopjhifepijiaaGreat
open Go.RowKit Go.Joins
set_option maxRecDepth 100000 in
set_option maxHeartbeats 2000000 in
theorem r5less_any (a b:Pt) (w:World):Calls Tryz.prog 34 #[.agg #[.int .i64 a.x, .int .i64 a.y], .agg #[.int .i64 b.x, .int .i64 b.y]] w fun e w'=>e= .returned (.bool (lessB a b))∧Below w.heap.size w w':=by
 obtain⟨v,hv⟩: ∃v,v=lessB a b:=⟨_,rfl⟩
 rw[←hv]
 have hc:((a.x==b.x)=false∧Hid (v=decide (a.x<b.x)))∨((a.x==b.x)=true∧Hid (v=decide (a.y<b.y))):=by
  by_cases h:a.x=b.x
  ·exact .inr ⟨by simpa using h,Lib.hid (by rw[hv];unfold lessB;exact decide_eq_decide.2 (by omega))⟩
  ·exact .inl ⟨by simpa using h,Lib.hid (by rw[hv];unfold lessB;exact decide_eq_decide.2 (by omega))⟩
 clear hv
 rcases hc with ⟨h,HV⟩|⟨h,HV⟩
 all_goals
  go_enter Tryz.func34,Tryz.ntmps34
  go_wp2_with fail
  go_ret
  exact⟨by rw[HV.out];rfl,below_alloc (below_alloc (Below.refl _ _))⟩
theorem ne_hf_of {a b:Hf} {x:Bool} (h:decide (a=b)=x) (w:World):(binOp .neq 91 (.agg #[.int .i64 a.edge, .bool a.back]) (.agg #[.int .i64 b.edge, .bool b.back])).run Tryz.prog w= .ok (.bool (!x)) w:=by
 subst h
 obtain⟨ax,ay⟩:=a
 obtain⟨bx,by_⟩:=b
 simp[go_sem]
 by_cases h1:ax=bx<;>by_cases h2:ay=by_<;>simp[h1,h2]
set_option maxRecDepth 100000 in
set_option maxHeartbeats 4000000 in
theorem r16same_any {w:World} {B n c m d:Nat} {a b:Option Addr} {R S:List Hf} (hr:HsIn w B a n R) (hs:HsIn w B b m S) (hB:B≤w.heap.size) (hl:n≤100000):
  Calls Tryz.prog 28 #[.slice a n c, .slice b m d] w fun e w'=>e= .returned (.bool (decide (R=S)))∧Below w.heap.size w w':=by
 have HRR:=Lib.hid hr
 have HSS:=Lib.hid hs
 have HL:=Lib.hid (show n=R.length∧m=S.length from⟨hr.1,hs.1⟩)
 clear hr hs
 by_cases hne:n=m
 rotate_left
 ·have F:=Lib.hid (show decide (R=S)=false from decide_eq_false (fun e=>hne (by rw[HL.out.1,HL.out.2,e])))
  go_enter Tryz.func28,Tryz.ntmps28
  go_wp2_with fail
  go_ret
  exact⟨by rw[F.out];rfl,Below.refl _ _⟩
 subst hne
 go_enter Tryz.func28,Tryz.ntmps28
 go_wp2_with fail
 go_loopw [5] (fun v wr=> ∃k:Nat,k≤n∧v= .int .i64 k∧R.take k=S.take k∧Below w.heap.size w wr) (fun v _=>n - (intOf v).toNat)
 case atStart=>exact⟨0,Nat.zero_le _,rfl,rfl,Below.refl _ _⟩
 case round=>
  obtain⟨k,hk,rfl,htk,hb⟩:=hrel
  have HB:=Lib.hid hb
  have HT:=Lib.hid htk
  clear hb htk
  by_cases hlt:k<n
  ·obtain⟨ba,oa,rfl,hba,hca⟩:=HRR.out.row (by omega)
   obtain⟨bb,ob,rfl,hbb,hcb⟩:=HSS.out.row (by omega)
   obtain⟨x,hx⟩: ∃x,R[k]? =some x:=⟨_,List.getElem?_eq_getElem (by have:=HL.out.1;omega)⟩
   obtain⟨y,hy⟩: ∃y,S[k]? =some y:=⟨_,List.getElem?_eq_getElem (by have:=HL.out.2;omega)⟩
   have HX:=Lib.hid hx
   have HY:=Lib.hid hy
   have HCA:=fun(W1:World) (hb:Below w.heap.size w W1)=>Lib.hid (hca W1 (hb.mono hB) k x hx)
   have HCB:=fun(W1:World) (hb:Below w.heap.size w W1)=>Lib.hid (hcb W1 (hb.mono hB) k y hy)
   clear hca hcb hx hy
   cases he:decide (x=y)
   ·have re:=ne_hf_of he
    have F:=Lib.hid (show decide (R=S)=false from decide_eq_false (fun e=>of_decide_eq_false he (by have h1:=HX.out;rw[e,HY.out] at h1;injection h1 with h1;exact h1.symm)))
    clear he
    simp only[Bool.not_false] at re
    go_wp2_with fail
    refine wp_name (fun c1 hc1=> ?_)
    have HB:=bnm HB (Lib.hid (Nat.le_refl _)) hc1
    have YB:=fun(x0:Later c1)=>HB.out.trans (x0.2.mono HB.out.size);have y8:=fun(x0:Later c1)=>(HCA x0.1 (YB x0)).out;have y9:=fun(x0:Later c1)=>(HCB x0.1 (YB x0)).out;clear YB
    clear hc1
    refine wp_region_later (by kernel_rfl) (by kernel_rfl) ?_
    repeat (first|go_big_quiet_step ((fail))|quiet_step ((fail)))
    refine wpQuiet_nil ?_
    intro w1 hw1
    have hb1:=later_below hw1
    clear hw1
    have HB:=Lib.hid (bnl HB (Lib.hid (Nat.le_refl _)) hb1)
    skip
    clear hb1
    go_wp2_with fail
    go_ret
    exact⟨by rw[F.out];rfl,HB.out⟩
   ·have re:=ne_hf_of he
    have HE:=Lib.hid (of_decide_eq_true he)
    clear he
    simp only[Bool.not_true] at re
    go_wp2_with fail
    refine wp_name (fun c2 hc2=> ?_)
    have HB:=bnm HB (Lib.hid (Nat.le_refl _)) hc2
    have YB:=fun(x0:Later c2)=>HB.out.trans (x0.2.mono HB.out.size);have y8:=fun(x0:Later c2)=>(HCA x0.1 (YB x0)).out;have y9:=fun(x0:Later c2)=>(HCB x0.1 (YB x0)).out;clear YB
    clear hc2
    refine wp_region_later (by kernel_rfl) (by kernel_rfl) ?_
    repeat (first|go_big_quiet_step ((fail))|quiet_step ((fail)))
    refine wpQuiet_nil ?_
    intro w2 hw2
    have hb2:=later_below hw2
    clear hw2
    have HB:=Lib.hid (bnl HB (Lib.hid (Nat.le_refl _)) hb2)
    skip
    clear hb2
    go_wp2_with fail
    go_roundw
    case rel=>exact⟨k+1,by omega,by go_num,by rw[take_snoc' HX.out,take_snoc' HY.out,HT.out,HE.out],HB.out⟩
    case measure=>simp[intOf];omega
  ·have F:=Lib.hid (show decide (R=S)=true from decide_eq_true (by
    have h1:=HT.out
    rw[List.take_of_length_le (by have:=HL.out.1;omega),List.take_of_length_le (by have:=HL.out.2;omega)] at h1
    exact h1))
   go_wp2_with fail
   go_ret
   exact⟨by rw[F.out];rfl,HB.out⟩
set_option maxRecDepth 100000 in
set_option maxHeartbeats 4000000 in
theorem r15degree_any {w:World} {B en ec:Nat} {ea:Option Addr} {es:List Ed} (he:EsIn w B ea en es) (hB:B≤w.heap.size) (hm:en≤100000) (vs:Value) (hes: ∃a n c,vs= .slice a n c) (id:Int):
  Calls Tryz.prog 36 #[.agg #[vs, .slice ea en ec], .int .i64 id] w fun e w'=>(∃d:Int,e= .returned (.int .i64 d)∧(d==0)=degB es id)∧Below w.heap.size w w':=by
 obtain⟨va,vn,vc,rfl⟩:=hes
 have HE:=Lib.hid he
 have HM:=Lib.hid he.1
 clear he
 go_enter Tryz.func36,Tryz.ntmps36
 go_wp2_with fail
 first|refine wp_name (fun W hW=> ?_)|refine calls_name (fun W hW=> ?_)
 have HW:Hid (Below w.heap.size w W):=Lib.hid (by rw[←hW];repeat (first|exact Below.refl _ _|refine below_alloc ?_))
 have HWs:Hid (W.heap.size=w.heap.size+1):=Lib.hid (by rw[←hW];simp)
 have HBW:Hid (W.heap.size≤W.heap.size):=Lib.hid (by have:=HWs.out;omega)
 have HC:=fun(W1:World) (hb:Below (W.heap.size) W W1)=>Lib.hid (show W1.cell? ⟨w.heap.size,0,none⟩=some (.slice va vn vc)∧W1.cell? ⟨w.heap.size,1,none⟩=some (.slice ea en ec) from by have hs:=HWs.out;refine⟨?_, ?_⟩<;>(refine(hb.cell (by dsimp only;omega)).trans ?_;rw[←hW];clear hW;go_simp))
 have HB:=Lib.hid (Below.refl (W.heap.size) W)
 clear hW
 have HZ:=fun(W1:World) (hb:W.heap.size≤W1.heap.size)=>Lib.hid (show w.heap.size<W1.heap.size from by have:=HWs.out;omega)
 obtain⟨qx0,qx1⟩:=(HC _ HB.out).out
 have rx0:=(HZ _ HB.out.size).out
 clear qx0 qx1 rx0
 go_loopw [5,6] (fun dv v wr=> ∃k d:Nat,k≤en∧v= .int .i64 k∧dv= .int .i64 d∧d≤2*k∧decide (d=0)=degB (es.take k) id∧Below W.heap.size W wr) (fun _ v _=>en - (intOf v).toNat)
 case atStart=>exact⟨0,0,Nat.zero_le _,rfl,rfl,by omega,by simp[degB],HB.out⟩
 case round=>
  clear HB
  obtain⟨k,d,hk,rfl,rfl,hd,hdz,hb⟩:=hrel
  have HB:=Lib.hid hb
  have HD:=Lib.hid hdz
  clear hb hdz
  obtain⟨qx0,qx1⟩:=(HC _ HB.out).out
  have rx0:=(HZ _ HB.out.size).out
  by_cases hlt:k<en
  ·obtain⟨eb,eoff,rfl,heb,hcell⟩:=HE.out.row (by omega)
   obtain⟨e,hev⟩: ∃e,es[k]? =some e:=⟨_,List.getElem?_eq_getElem (by have:=HM.out;omega)⟩
   obtain⟨e0,e1,e2⟩:=hcell wr ((HW.out.trans (HB.out.mono HW.out.size)).mono hB) k e hev
   have HS:=Lib.hid (show degB (es.take (k+1)) id=(degB (es.take k) id&& !(decide (e.a=id)||decide (e.b=id))) from by
    rw[take_snoc' hev]
    unfold degB
    rw[List.any_append]
    simp[Bool.not_or])
   clear hcell hev
   cases ha:(e.a==id)<;>cases hb:(e.b==id)
   ·have HN:=Lib.hid (show degB (es.take (k+1)) id=decide (d=0) from by rw[HS.out, ←HD.out];simp at ha hb;simp[ha,hb])
    go_wp2_with fail
    go_roundw
    case rel=>exact⟨k+1,d,by omega,by go_num,rfl,by omega,HN.out.symm,HB.out⟩
    case measure=>simp[intOf];omega
   ·have HN:=Lib.hid (show degB (es.take (k+1)) id=decide (d+1=0) from by rw[HS.out];simp at ha hb;simp[hb])
    go_wp2_with fail
    go_roundw
    case rel=>exact⟨k+1,d+1,by omega,by go_num,by go_num,by omega,HN.out.symm,HB.out⟩
    case measure=>simp[intOf];omega
   ·have HN:=Lib.hid (show degB (es.take (k+1)) id=decide (d+1=0) from by rw[HS.out];simp at ha hb;simp[ha])
    go_wp2_with fail
    go_roundw
    case rel=>exact⟨k+1,d+1,by omega,by go_num,by go_num,by omega,HN.out.symm,HB.out⟩
    case measure=>simp[intOf];omega
   ·have HN:=Lib.hid (show degB (es.take (k+1)) id=decide (d+2=0) from by rw[HS.out];simp at ha hb;simp[ha])
    go_wp2_with fail
    go_roundw
    case rel=>exact⟨k+1,d+2,by omega,by go_num,by go_num,by omega,HN.out.symm,HB.out⟩
    case measure=>simp[intOf];omega
  ·have HN:=Lib.hid (show((d:Int)==0)=degB es id from by
    have h1:=HD.out
    rw[List.take_of_length_le (by have:=HM.out;omega)] at h1
    rw[←h1,Bool.eq_iff_iff]
    simp)
   go_wp2_with fail
   go_ret
   exact⟨⟨_,rfl,HN.out⟩,HW.out.trans (HB.out.mono HW.out.size)⟩
end Go.Proofs.YthopjhifepijiaaGreat
