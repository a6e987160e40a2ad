/- Lemmas on the way to the statement. -/
import Derived.Test.YthopjhifepijiaaGreatJ19
set_option linter.unusedSimpArgs false
set_option linter.unusedVariables false
namespace Go.Proofs.YthopjhifepijiaaGreat
open Go.RowKit Go.Joins
theorem Tryz.infoRz:(Tryz.prog.info? 38).map (fun i=>(i.zero,i.size,i.bytes))=some (some (.agg #[.slice none 0 0, .slice none 0 0, .slice none 0 0]),3,72):=by kernel_rfl
theorem Tryz.infoIz:(Tryz.prog.info? 3).map (fun i=>(i.zero,i.size,i.bytes))=some (some (.int .i64 0),1,8):=by kernel_rfl
theorem RgOut.ring {lo k:Nat} {w:World} {a:Option Addr} {L:List (List Hf)} {R:List Hf} (h:RgOut lo w a L) (hR:L[k]? =some R): ∃b g c,a=some ⟨b,0,none⟩∧lo≤b∧b<w.heap.size∧lo≤g∧g<w.heap.size∧w.cell? ⟨b,k,none⟩=some (.slice (some ⟨g,0,none⟩) R.length c)∧HsAt w g 0 R:=by
 rcases h with rfl|⟨b,e,h1,h2,hs⟩
 ·simp at hR
 ·obtain⟨g,c,hc,h3,h4,h5⟩:=hs k R hR
  exact⟨b,g,c,e,h1,h2,h3,h4,hc,h5⟩
set_option maxRecDepth 100000 in
set_option maxHeartbeats 16000000 in
theorem r17realms_any {w:World} {B vn vc en ec:Nat} {va ea:Option Addr} {p:PL} (r:RightP p) (hv:VsIn w B va vn p.vs) (he:EsIn w B ea en p.es) (hB:B≤w.heap.size) (hec:en≤ec) (hfew:en≤100):
  Calls Tryz.prog 12 #[.agg #[.slice va vn vc, .slice ea en ec]] w fun e w'=>(∃a n c,e= .returned (.slice a n c)∧RlIn w' w'.heap.size a n (realmsP p (pieceR p) (-1)))∧Below w.heap.size w w':=by
 have hvn:vn≤512:=by have:=r.nv;have:=hv.1;omega
 have HOT:=fun(W:World) (hb:Below w.heap.size w W)=>Lib.hid (r17outers_any (w:=W) (vc:=vc) (ec:=ec) r (hv.below (hb.mono hB)) (he.below (hb.mono hB)) (Nat.le_trans hB hb.size) hec hfew)
 have HPI:=fun(W:World) (hb:Below w.heap.size w W)=>Lib.hid (r16pieces_any (w:=W) (vc:=vc) (ec:=ec) r (hv.below (hb.mono hB)) (he.below (hb.mono hB)) (Nat.le_trans hB hb.size))
 have HRI:=fun(W:World) (hb:Below w.heap.size w W)=>Lib.hid (r16rings_any (w:=W) (vc:=vc) (ec:=ec) r (hv.below (hb.mono hB)) (he.below (hb.mono hB)) (Nat.le_trans hB hb.size))
 have HV:=Lib.hid hv
 have HE:=Lib.hid he
 have HR:=Lib.hid r
 have HM:=Lib.hid he.1
 have HVL:=Lib.hid hv.1
 obtain⟨i0,hi,hz0,hz1,hz2⟩:=info_parts Tryz.infoRz
 obtain⟨j0,hj0,hy0,hy1,hy2⟩:=info_parts Tryz.infoHs
 obtain⟨l0,hl,hl0,hl1,hl2⟩:=info_parts Tryz.infoIz
 clear hv he r
 go_enter Tryz.func12,Tryz.ntmps12
 go_wp2_with fail
 first|refine wp_name (fun W hW=> ?_)|refine calls_name (fun W hW=> ?_)
 have HW:Hid (Below w.heap.size w W):=Lib.hid (by rw[←hW];repeat (first|exact Below.refl _ _|refine below_alloc ?_))
 have HWs:Hid (W.heap.size=w.heap.size+1+1):=Lib.hid (by rw[←hW];simp)
 skip
 have HC:=fun(W1:World) (hb:Touch ([w.heap.size+1]) W W1)=>Lib.hid (show W1.cell? ⟨w.heap.size,0,none⟩=some (.slice va vn vc)∧W1.cell? ⟨w.heap.size,1,none⟩=some (.slice ea en ec) from by have hs:=HWs.out;refine⟨?_, ?_⟩<;>(refine(touch_cell hb (by omega) (by first|(simp;done)|(simp;omega)|(intro hm;simp at hm;omega))).trans ?_;rw[←hW];clear hW;go_simp))
 have HB:=Lib.hid (Touch.refl ([w.heap.size+1]) W)
 have HZ:=fun(W1:World) (hb:W.heap.size≤W1.heap.size)=>Lib.hid (show w.heap.size<W1.heap.size from by have:=HWs.out;omega)
 obtain⟨qx0,qx1⟩:=(HC _ HB.out).out
 have rx0:=(HZ _ HB.out.size).out
 have HRW:=Lib.hid (show W.ownsRow 0 38 3 (.slice (some ⟨w.heap.size+1,0,none⟩) 1 1) 1 [.slice none 0 0, .slice none 0 0, .slice none 0 0] from by
  rw[←hW]
  have e:(w.alloc (.cells #[.slice va vn vc, .slice ea en ec] 25)).heap.size=w.heap.size+1:=by simp
  have:=own_alloc (w.alloc (.cells #[.slice va vn vc, .slice ea en ec] 25)) 0 3 1 38 [.slice none 0 0, .slice none 0 0, .slice none 0 0] (Nat.zero_le _) rfl (by decide)
  rw[e] at this
  exact this)
 have HFF:Hid (∀b∈[w.heap.size+1],w.heap.size≤b):=Lib.hid (by intro b hb;simp at hb;omega)
 clear hW
 refine((HOT _ HW.out).out).mono ?_
 rintro e w1 ⟨⟨oa,on,oc,rfl,hrg,hro⟩,hb2⟩
 have HB:=Lib.hid (touch_next HB.out (by repeat (first|exact Below.refl _ _|refine below_alloc ?_)) hb2)
 clear qx0 qx1 rx0
 obtain⟨qx0,qx1⟩:=(HC _ HB.out).out
 have HRW1:=Lib.hid (ownsRow_touch HRW.out (Touch.of_below (F:=[]) hb2) (by simp));have HLO:=Lib.hid (show w.heap.size+1+1≤w1.heap.size from by have:=HWs.out;have:=(hb2).size;omega)
 clear hb2
 have rx0:=(HZ _ HB.out.size).out
 have hon:on≤400:=by
  have h1:=hrg.1
  have h2:(outersP p).length≤(ringsP p).length:=List.length_filter_le _ _
  have:=HR.out.rings_few
  have:=HM.out
  omega
 have HON:=Lib.hid hrg.1
 have hro2:=hro.mono (show w.heap.size+1+1≤W.heap.size by have:=HWs.out;omega)
 have HRO:=Lib.hid hro2
 obtain⟨Ho,hHo⟩:=hro2.hd
 have HHO:=Lib.hid hHo
 clear hrg hro hro2 hHo
 go_wp2_with fail
 clear qx0 qx1 rx0
 go_loopw [3,5] (fun o v wr=> ∃(k:Nat) (ov:Value),k≤on∧v= .int .i64 k∧ov=o∧Z1 w1 wr (w.heap.size+1) k ov Ho) (fun _ v _=>on - (intOf v).toNat)
 case atStart=>exact⟨0,_,Nat.zero_le _,rfl,rfl,HRW1.out,fun b hb=>by cases hb;exact .inl rfl,Touch.refl _ _⟩
 case round=>
  obtain⟨k,ov,hk,rfl,rfl,hI⟩:=hrel
  obtain⟨wq,rfl⟩: ∃x:World,x=wr:=⟨_,rfl⟩
  have HI:=Lib.hid hI
  have HB:=Lib.hid (HB.out.trans hI.tch (fun b hb=> .inl hb))
  clear hI
  have HX:=Lib.hid (show Below w.heap.size w wq from args_touch HW.out HB.out HFF.out (Nat.le_refl _))
  by_cases hlt:k<on
  ·skip
   obtain⟨L,hL⟩: ∃L,(outersP p)[k]? =some L:=⟨_,List.getElem?_eq_getElem (by have:=HON.out;omega)⟩
   obtain⟨lb,lg,lc,rfl,hlb,hlb2,hhd,hhc,hlg,hlg2, -⟩:=HHO.out k L hL
   have k0:wq.cell? ⟨lb,k,none⟩=some (Ho k):=(HI.out.tch.cell (p:=⟨lb,k,none⟩) hlb2 (by simp;omega)).trans hhc
   rw[hhd] at k0
   have HHD:=Lib.hid hhd
   clear hL hhd hhc hlg hlg2
   go_wp2_with (at_builtin;go_loud (refine wpList_append_near _ rfl (.tmp 26) (.tmp 32) 32 rfl 0 38 i0 (.agg #[.slice none 0 0, .slice none 0 0, .slice none 0 0]) 3 72 Tryz.underlying32 hi hz0 hz1 hz2 rfl (by decide) ov (k+1) _ rfl (HI.out.row.alloc _) ⟨wq.heap.size,0,none⟩ 1 1 [.slice (some ⟨lg,0,none⟩) L.length lc, .slice none 0 0, .slice none 0 0] rfl (by decide) rfl (cell_list_at _ [.slice (some ⟨lg,0,none⟩) L.length lc, .slice none 0 0, .slice none 0 0] _ rfl) (by intro u hu;simp at hu;rcases hu with rfl|rfl<;>rfl) (by unfold maxLen;omega) (by omega) (Nat.zero_le _) ?_;intro g8 cap8 w8 hown hgr hat;have HN:=Lib.hid (show Z1 w1 w8 (w.heap.size+1) (k+1) (.slice (some ⟨g8,0,none⟩) (k+1+1) cap8) Ho from HI.out.add (below_alloc (Below.refl _ _)) (by rw[HHD.out];exact hown) hgr hat);clear hown hgr hat))
   go_roundw
   case rel=>exact⟨k+1,_,by omega,by go_num,rfl,HN.out⟩
   case measure=>simp[intOf];omega
  ·obtain rfl:k=on:=by omega
   obtain⟨gb,capb,rfl⟩:=ownsRow_form HI.out.row (by omega)
   have HGB:=Lib.hid (HI.out.ob gb rfl)
   have HGL:=Lib.hid (HI.out.row.lt gb rfl).2
   clear hlt hk
   obtain⟨qx0,qx1⟩:=(HC _ HB.out).out
   have rx0:=(HZ _ HB.out.size).out
   go_wp2_with fail
   refine(HPI _ HX.out).out.mono ?_
   rintro e wp ⟨⟨pa,pc,rfl,hown⟩,hbp⟩
   have HOW:=Lib.hid hown
   have HBP:=Lib.hid hbp
   have HXP:=Lib.hid (below_step hbp HX.out)
   have HB:=Lib.hid (HB.out.trans (Touch.of_below (F:=[]) hbp) (by simp))
   clear hown hbp
   clear qx0 qx1 rx0
   obtain⟨qx0,qx1⟩:=(HC _ HB.out).out
   have rx0:=(HZ _ HB.out.size).out
   go_wp2_with fail
   refine(HRI _ HXP.out).out.mono ?_
   rintro e w2 ⟨⟨la,ln,lc,rfl,hrg,hro⟩,hb2⟩
   have hln:ln≤400:=by have:=hrg.1;have:=HR.out.rings_few;have:=HM.out;omega
   have HLN:=Lib.hid hrg.1
   have HU:=Lib.hid hro
   have HX2:=Lib.hid (below_step hb2 HXP.out)
   have HB:=Lib.hid (HB.out.trans (Touch.of_below (F:=[]) hb2) (by simp))
   have HOW2:=Lib.hid (ownsRow_touch HOW.out (Touch.of_below (F:=[]) hb2) (by simp))
   have HQ2:=Lib.hid (below_step hb2 HBP.out)
   have HO2:=Lib.hid (HI.out.tch.trans (Touch.of_below (F:=[]) HQ2.out) (by simp))
   have HZ0:=Lib.hid (show ZS (zK (w.heap.size+1+1) w1.heap.size wp.heap.size) w2 w2 gb capb (rmQ p (pieceR p) 0) (hZ Ho) nilZ nilZ (fun _=>[]) from by
    have h:=HI.out
    rw[HON.out] at h
    exact Z1.go h (fun i R hR=>by obtain⟨b,g,c, -, -, -,h1, -,h2,h3,h4⟩:=HHO.out i R hR;exact⟨g,c,h1,h2,h3,h4⟩) HQ2.out (by omega) HLO.out (Nat.lt_of_lt_of_le HGL.out HBP.out.size) HBP.out.size _)
   have HGP:=Lib.hid (Nat.lt_of_lt_of_le HGL.out HBP.out.size)
   have HBT:=fun(W1:World) (t:Touch [gb] w2 W1)=>Lib.hid (show Touch [w.heap.size+1] W W1 from HB.out.trans t (fun b hb=>by
    simp at hb
    subst hb
    rcases HGB.out with e|e
    ·exact .inl (by simp[e])
    ·have h1:=HLO.out;have h2:=HWs.out;exact .inr (by omega)))
   have HXT:=fun(W1:World) (t:Touch [gb] w2 W1)=>Lib.hid (show Below w.heap.size w W1 from args_touch HW.out (HBT W1 t).out HFF.out (Nat.le_refl _))
   have HVT:=fun(W1:World) (t:Touch [gb] w2 W1)=>Lib.hid (show VsIn W1 W1.heap.size va vn p.vs∧EsIn W1 W1.heap.size ea en p.es from by
    have h:=(HXT W1 t).out
    exact⟨(HV.out.below (h.mono hB)).mono7 (Nat.le_trans hB h.size),(HE.out.below (h.mono hB)).mono7 (Nat.le_trans hB h.size)⟩)
   have HLS:=fun(W1:World) (t:Touch [gb] w2 W1) (q:Pt) (hq:inB q=true) (but:Int)=>Lib.hid (r17least_any (w:=W1) (B:=W1.heap.size) (vc:=vc) (ec:=ec) (rc:=oc) (pc:=pc) HR.out (HVT W1 t).out.1 (HVT W1 t).out.2 ((HRO.out.touch (HO2.out.trans t (fun b hb=>by
    simp at hb
    subst hb
    rcases HGB.out with e|e
    ·exact .inl (by simp[e])
    ·exact .inr e)) (fun b hb=>by simp at hb;subst hb;exact .inl (by omega))).in_ HON.out) (own_ns (ownsRow_touch HOW2.out t (fun b hb hm=>by have h1:=(HOW2.out.lt b hb).1;have h2:=HGL.out;simp at hm;omega)) (rowN_len _ _).symm) q hq (Nat.le_refl _) hec hfew but)
   have HNS:=fun(W1:World) (t:Touch [gb] w2 W1)=>Lib.hid (own_ns (ownsRow_touch HOW2.out t (fun b hb hm=>by have h1:=(HOW2.out.lt b hb).1;have h2:=HGL.out;simp at hm;omega)) (rowN_len _ _).symm)
   have hgb:gb<w2.heap.size:=Nat.lt_of_lt_of_le HGL.out HQ2.out.size
   have HGW:=Lib.hid (show w.heap.size<gb from by rcases HGB.out with e|e;omega;have:=HLO.out;omega)
   clear hrg hro hb2
   go_wp2_with fail
   clear qx0 qx1 rx0
   go_loopw [8] (fun v wr=> ∃(j:Nat) (VI:Nat→Value) (ZI:Nat→List Value),j≤ln∧v= .int .i64 j∧ZS (zK (w.heap.size+1+1) w1.heap.size wp.heap.size) w2 wr gb capb (rmQ p (pieceR p) j) (hZ Ho) VI nilZ ZI) (fun v _=>ln - (intOf v).toNat)
   case atStart=>exact⟨0,_,_,Nat.zero_le _,rfl,HZ0.out⟩
   case round=>
    clear HZ0 HI HX
    obtain⟨j,VI,ZI,hj,rfl,hZ⟩:=hrel
    obtain⟨wz,rfl⟩: ∃x:World,x=wr:=⟨_,rfl⟩
    have HI:=Lib.hid hZ
    have HX:=HXT _ hZ.tch
    have HBW2:=HB
    have HB:=HBT _ hZ.tch
    clear hZ
    by_cases hjl:j<ln
    ·skip
     obtain⟨L,hL⟩: ∃L,(ringsP p)[j]? =some L:=⟨_,List.getElem?_eq_getElem (by have:=HLN.out;omega)⟩
     have HLK:=Lib.hid hL
     have hmem:=List.mem_of_getElem? hL
     obtain⟨lb,rg,rc,rfl,hb1,hb2,hg1,hg2,hcl,hsl⟩:=HU.out.ring hL
     obtain⟨h0,m0,hring⟩:=HR.out.rings.1 L hmem
     obtain⟨x,L',hLx⟩: ∃x L',L=x::L':=by
      cases L with
      |nil=>exact absurd rfl hring.ne
      |cons x L'=>exact⟨x,L',rfl⟩
     have HMH:=Lib.hid (show∀y∈L,y∈halvesE p.es from fun y hy=>(hring.mem y hy).1)
     have hxm:x∈halvesE p.es:=(hring.mem x (by rw[hLx];simp)).1
     have HXM:=Lib.hid hxm
     have hrl:L.length≤200:=by have:=ring_len HR.out hmem;have:=HM.out;omega
     have hlpos:0<L.length:=by rw[hLx];simp
     have HAP:=Lib.hid (area_ring HR.out hmem)
     have HHX:=Lib.hid (show L[0]? =some x from by rw[hLx];rfl)
     have HHL:=Lib.hid (show headH L=x from by rw[hLx];rfl)
     have HPV:=Lib.hid (show pieceR p (frA p L)=(roundsL (placesE p) vn (placeV p.vs (fromH p.es x)):Nat) from by
      rw[←HR.out.piece_from HR.out.pieceR_fn hmem,hLx,HVL.out]
      rfl)
     have HYQ:=fun(W1:World) (hb:Below wz.heap.size wz W1)=>Lib.hid (show W1.cell? ⟨w.heap.size,0,none⟩=some (.slice va vn vc)∧W1.cell? ⟨w.heap.size,1,none⟩=some (.slice ea en ec)∧W1.cell? ⟨lb,j,none⟩=some (.slice (some ⟨rg,0,none⟩) L.length rc)∧HsAt W1 rg 0 L from by
      have t:=HI.out.tch.trans (Touch.of_below (F:=[]) hb) (by simp)
      obtain⟨d0,d1⟩:=(HC _ (HBT _ t).out).out
      have h1:=HGP.out
      exact⟨d0,d1,(t.cell (p:=⟨lb,j,none⟩) hb2 (by simp;omega)).trans hcl,hsl.touch t hg2 (by simp;omega)⟩)
     have HTQ:=fun(W1:World) (hb:Below wz.heap.size wz W1)=>Lib.hid (show Touch [gb] w2 W1 from HI.out.tch.trans (Touch.of_below (F:=[]) hb) (by simp))
     have HAC:=fun(W1:World) (hb:Below wz.heap.size wz W1)=>r17area_any (w:=W1) (vc:=vc) (ec:=ec) (c:=rc) (HVT W1 (HTQ W1 hb).out).out.1 (HVT W1 (HTQ W1 hb).out).out.2 (show HsIn W1 W1.heap.size (some ⟨rg,0,none⟩) L.length L from⟨rfl, .inr ⟨rg,0,rfl,Nat.lt_of_lt_of_le hg2 (HTQ W1 hb).out.size,(HYQ W1 hb).out.2.2.2⟩⟩) (Nat.le_refl _) hec (by omega) (by omega) (by omega)
     have HAC:=fun(W1:World) (hb:Below wz.heap.size wz W1)=>Lib.hid (HAC W1 hb)
     have HFR:=fun(W1:World) (hb:Below wz.heap.size wz W1) (h:Hf) (hm:h∈halvesE p.es)=>Lib.hid (r16from_any (w:=W1) (ec:=ec) (HVT W1 (HTQ W1 hb).out).out.2 (Nat.le_refl _) (by omega) (.slice va vn vc) ⟨_,_,_,rfl⟩ h (mem_known hm))
     have HAT:=fun(W1:World) (hb:Below wz.heap.size wz W1) (h:Hf) (hm:h∈halvesE p.es)=>Lib.hid (r15at_any (w:=W1) (vc:=vc) (HVT W1 (HTQ W1 hb).out).out.1 (Nat.le_refl _) (by omega) (.slice ea en ec) ⟨_,_,_,rfl⟩ (fromH p.es h) (HR.out.halfIn (mem_known hm)).from_)
     have HCW:=Lib.hid (HYQ wz (Below.refl _ _)).out
     have HHG:=Lib.hid (show wp.heap.size≤rg∧rg<w2.heap.size from⟨hg1,hg2⟩)
     have HLB:=Lib.hid hb2
     have hlbz:lb<wz.heap.size:=Nat.lt_of_lt_of_le hb2 HI.out.tch.size
     have hrgz:rg<wz.heap.size:=Nat.lt_of_lt_of_le hg2 HI.out.tch.size
     clear hL hmem hring hLx hxm hcl hsl
     go_wp2_with fail
     skip
     go_cut [9] (fun v9 wx=> ∃g nm bg,v9= .pointer (some ⟨bg,0,none⟩)∧wx.rowIs bg 87 2 (nmF g nm)∧NmV wx 0 wx.heap.size (.agg #[.bool g,nm]) (areaH p L)∧Below wz.heap.size wz wx)
     case first=>
      have HY:=fun(w':World) (t:Below wz.heap.size wz w')=>Lib.hid (show w'.cell? ⟨w.heap.size,0,none⟩=some (.slice va vn vc)∧w'.cell? ⟨w.heap.size,1,none⟩=some (.slice ea en ec)∧w'.cell? ⟨lb,j,none⟩=some (.slice (some ⟨rg,0,none⟩) L.length rc)∧True∧True from by
       obtain⟨d0,d1,d2, -⟩:=(HYQ _ t).out
       exact⟨d0,d1,d2,trivial,trivial⟩)
      have HS0:=Lib.hid (Below.refl wz.heap.size wz).drew
      refine wp_region_noPanic ?_
      refine wp_region_par3 7 7 (by kernel_rfl) (by kernel_rfl) (by simp) (by omega) (by kernel_rfl) (by kernel_rfl) (fun w':World=>Below wz.heap.size wz w') ?_
      refine par3_read8 (v:= ?_) 0 (by simp only[zga,zgb,zgc];rfl) (by kernel_rfl) (by rfl) HS0.out ?_ (fun _ _ _ h=>h) ?_
      rotate_left
      ·(intro w9 hSw;obtain⟨y0,y1,y2,y3,y4⟩:=(HY w9 hSw).out;clear hSw;go_simp;try with_reducible rfl)
      simp only[Act.put,zpa,zpb,zpc]
      refine par3_move (v:= ?_) 1 (by simp only[zga,zgb,zgc];rfl) (by kernel_rfl) (by rfl) ?_ (fun _ _ _ h=>h) ?_
      rotate_left
      ·(intro w9;go_simp;try with_reducible rfl)
      simp only[Act.put,zpa,zpb,zpc]
      refine par3_move (v:= ?_) 2 (by simp only[zga,zgb,zgc];rfl) (by kernel_rfl) (by rfl) ?_ (fun _ _ _ h=>h) ?_
      rotate_left
      ·(intro w9;go_simp;try with_reducible rfl)
      simp only[Act.put,zpa,zpb,zpc]
      refine par3_move (v:= ?_) 3 (by simp only[zga,zgb,zgc];rfl) (by kernel_rfl) (by rfl) ?_ (fun _ _ _ h=>h) ?_
      rotate_left
      ·(intro w9;go_simp;try with_reducible rfl)
      simp only[Act.put,zpa,zpb,zpc]
      refine par3_read8 (v:= ?_) 4 (by simp only[zga,zgb,zgc];rfl) (by kernel_rfl) (by rfl) HS0.out ?_ (fun _ _ _ h=>h) ?_
      rotate_left
      ·(intro w9 hSw;obtain⟨y0,y1,y2,y3,y4⟩:=(HY w9 hSw).out;clear hSw;go_simp;try with_reducible rfl)
      simp only[Act.put,zpa,zpb,zpc]
      refine par3_nm (fun W0 hW0=> ?_)
      rw[←hW0] at HS0
      clear hW0
      refine par3_two 5 6 (by simp only[zga,zgb,zgc];rfl) (by simp only[zga,zgb,zgc];rfl) (by kernel_rfl) (by rfl) (by rfl) ?_ ?_
      ·refine owp_call (by go_simp;constructor<;>rfl) ?_
       refine(HAC _ HS0.out).out.mono ?_
       rintro z W5 ⟨⟨z1,rfl,hz⟩,hb9⟩
       have HS5:=Lib.hid (below_next HS0.out HS0.out.size hb9)
       rw[HAP.out] at hz
       obtain⟨g,da,dn,dc,rfl⟩:=hz.form
       have HZ:=Lib.hid hz
       refine⟨_,rfl,fun s _=>HS5.out, ?_⟩
       clear hb9 hz
       simp only[Act.put,zpa,zpb,zpc]
       refine par3_one 6 (by simp only[zga,zgb,zgc];rfl) (by kernel_rfl) (by rfl) ?_
       refine owp_val (v:= ?_) (w1:= ?_) ?_ ?_
       rotate_left 2
       ·(go_simp;constructor<;>rfl)
       refine⟨fun s _=>s.alloc s.size _, ?_⟩
       simp only[Act.put,zpa,zpb,zpc]
       refine par3_tail _ (by simp only[List.drop_succ_cons,List.drop_zero];rfl) (by kernel_rfl) ?_
       go_wp2_with fail
       refine NoPanic.normal ?_
       go_step
       first|go_meet|(go_step;go_meet)
       exact⟨g, .slice da dn dc,_,rfl,World.rowIs_alloc W5 #[.bool g, .slice da dn dc] 87 (nmF g (.slice da dn dc)) (fun i hi=>by rcases i with _|_|i<;>first|rfl|(simp at hi;omega)),((HZ.out.below (below_alloc (Below.refl _ _))).mono (by simp)).weak (Nat.zero_le _),HS5.out.alloc HS5.out.size _⟩
      ·refine owp_val (v:= ?_) (w1:= ?_) ?_ ?_
       rotate_left 2
       ·(go_simp;constructor<;>rfl)
       refine⟨fun s _=>s.alloc s.size _, ?_⟩
       simp only[Act.put,zpa,zpb,zpc]
       have HRA:=Lib.hid (show(W0.alloc (.cells #[.bool false, .slice none 0 0] 87)).rowIs W0.heap.size 87 2 (nmF false (.slice none 0 0)) from World.rowIs_alloc W0 #[.bool false, .slice none 0 0] 87 (nmF false (.slice none 0 0)) (fun i hi=>by rcases i with _|_|i<;>first|rfl|(simp at hi;omega)))
       have HSA:=Lib.hid (HS0.out.alloc HS0.out.size (.cells #[.bool false, .slice none 0 0] 87))
       have HZA:=Lib.hid (show W0.heap.size<(W0.alloc (.cells #[.bool false, .slice none 0 0] 87)).heap.size from by simp)
       refine par3_nm (fun WA hW9=> ?_)
       rw[←hW9] at HRA HSA HZA
       clear hW9
       refine par3_one 5 (by simp only[zga,zgb,zgc];rfl) (by kernel_rfl) (by rfl) ?_
       refine owp_call (by go_simp;constructor<;>rfl) ?_
       refine(HAC _ HSA.out).out.mono ?_
       rintro z W5 ⟨⟨z1,rfl,hz⟩,hb9⟩
       have HS5:=Lib.hid (below_next HSA.out HSA.out.size hb9)
       have HR5:=Lib.hid (rowIs_touch HRA.out (Touch.of_below (F:=[]) hb9) (by simp))
       rw[HAP.out] at hz
       obtain⟨g,da,dn,dc,rfl⟩:=hz.form
       have HZ:=Lib.hid hz
       refine⟨_,rfl,fun s _=>HS5.out, ?_⟩
       clear hb9 hz
       simp only[Act.put,zpa,zpb,zpc]
       have f0:=fun i=>World.rowIs.frozen HR5.out i
       have q0:W5.cell? ⟨W0.heap.size,0,none⟩=some (.bool false):=World.rowIs.cell HR5.out (i:=0) (by decide)
       have q1:W5.cell? ⟨W0.heap.size,1,none⟩=some (.slice none 0 0):=World.rowIs.cell HR5.out (i:=1) (by decide)
       refine par3_tail _ (by simp only[List.drop_succ_cons,List.drop_zero];rfl) (by kernel_rfl) ?_
       go_wp2_with fail
       refine NoPanic.normal ?_
       go_step
       first|go_meet|(go_step;go_meet)
       exact⟨g, .slice da dn dc,_,rfl,World.rowIs.congr (World.rowIs.set (World.rowIs.set HR5.out 0 _) 1 _) (fun i hi=>by rcases i with _|_|i<;>first|rfl|exact absurd hi (by omega)),((HZ.out.touch (((Touch.refl [W0.heap.size] W5).setCell (.inl (by simp)) _).setCell (.inl (by simp)) _) (Nat.le_refl _) (by intro b hb;have:=HZA.out;simp at hb;omega)).mono (by simp)).weak (Nat.zero_le _),(HS5.out.setCell HS0.out.size _).setCell HS0.out.size _⟩
     case rest=>
     obtain⟨g,nm,bg,rfl,hrow,hnm,hb⟩:=hcut
     obtain⟨wd,rfl⟩: ∃x:World,x=wc:=⟨_,rfl⟩
     obtain⟨da,dn,dc,rfl⟩:=hnm.dig
     have HBD:=Lib.hid hb
     have c0:wd.cell? ⟨bg,0,none⟩=some (.bool g):=World.rowIs.cell hrow (i:=0) (by decide)
     have c1:wd.cell? ⟨bg,1,none⟩=some (.slice da dn dc):=World.rowIs.cell hrow (i:=1) (by decide)
     have hpos:(g=false∧0<dn∧0<areaH p L)∨(g=true∧ ¬0<areaH p L)∨(g=false∧ ¬0<dn∧ ¬0<areaH p L):=by
      obtain⟨g',a',n',c',l',e,hn',hc',hd, -⟩:=hnm
      simp at e
      obtain⟨rfl,rfl,rfl,rfl⟩:=e
      have h1:=hd.neg
      have h2:=hd.len
      rw[←hn'.1] at h2
      by_cases hneg:areaH p L<0
      ·right;left;exact⟨by rw[h1];simp[hneg],by omega⟩
      ·by_cases hz:areaH p L=0
       ·right;right
        simp[hz] at h2
        exact⟨by rw[h1];simp[hneg],by omega,by omega⟩
       ·left
        simp[hz] at h2
        exact⟨by rw[h1];simp[hneg],by omega,by omega⟩
     clear hb hnm hrow
     rcases hpos with ⟨rfl,h1,h2⟩|⟨rfl,h2⟩|⟨rfl,h1,h2⟩
     ·have HN:=Lib.hid (rmQ_pos (g:=pieceR p) HLK.out h2)
      clear h2
      go_wp2_with fail
      go_roundw
      case rel=>exact⟨j+1,VI,ZI,by omega,by go_num,by rw[HN.out];exact HI.out.below HBD.out⟩
      case measure=>simp[intOf];omega
     all_goals
      have HN:=Lib.hid (rmQ_neg (g:=pieceR p) HLK.out h2)
      clear h2
      go_wp2_with fail
      clear c0 c1
      have HFX:=fun(W1:World) (hb:Below wd.heap.size wd W1)=>HFR W1 (below_step hb HBD.out) x HXM.out
      have HAX:=fun(W1:World) (hb:Below wd.heap.size wd W1)=>HAT W1 (below_step hb HBD.out) x HXM.out
      obtain⟨q,hq⟩: ∃q,q=(findV p.vs (fromH p.es x)).at_:=⟨_,rfl⟩
      have HQE:=Lib.hid (show q=ptH p x from hq.trans (ptZ_find _ _))
      rw[←hq] at HAX
      clear hq
      generalize fromH p.es x=fx at HFX HAX
      go_cut [10] (fun v10 wx=> ∃bq,v10= .pointer (some ⟨bq,0,none⟩)∧wx.rowIs bq 42 2 (ptF q)∧wd.heap.size≤bq∧Below wd.heap.size wd wx)
      case first=>
       have HY:=fun(w':World) (t:Below wd.heap.size wd w')=>Lib.hid (show w'.cell? ⟨w.heap.size,0,none⟩=some (.slice va vn vc)∧w'.cell? ⟨w.heap.size,1,none⟩=some (.slice ea en ec)∧w'.cell? ⟨lb,j,none⟩=some (.slice (some ⟨rg,0,none⟩) L.length rc)∧w'.cell? ⟨rg,0,none⟩=some (.int .i64 x.edge)∧w'.cell? ⟨rg,1,none⟩=some (.bool x.back) from by
        obtain⟨d0,d1,d2,d3⟩:=(HYQ _ (below_step t HBD.out)).out
        have d4:=d3 0 x HHX.out
        exact⟨d0,d1,d2,by simpa using d4⟩)
       have HS0:=Lib.hid (Below.refl wd.heap.size wd).drew
       refine wp_region_noPanic ?_
       refine wp_region_par3 11 11 (by kernel_rfl) (by kernel_rfl) (by simp) (by omega) (by kernel_rfl) (by kernel_rfl) (fun w':World=>Below wd.heap.size wd w') ?_
       refine par3_read8 (v:= ?_) 0 (by simp only[zga,zgb,zgc];rfl) (by kernel_rfl) (by rfl) HS0.out ?_ (fun _ _ _ h=>h) ?_
       rotate_left
       ·(intro w9 hSw;obtain⟨y0,y1,y2,y3,y4⟩:=(HY w9 hSw).out;clear hSw;go_simp;try with_reducible rfl)
       simp only[Act.put,zpa,zpb,zpc]
       refine par3_read8 (v:= ?_) 1 (by simp only[zga,zgb,zgc];rfl) (by kernel_rfl) (by rfl) HS0.out ?_ (fun _ _ _ h=>h) ?_
       rotate_left
       ·(intro w9 hSw;obtain⟨y0,y1,y2,y3,y4⟩:=(HY w9 hSw).out;clear hSw;go_simp;try with_reducible rfl)
       simp only[Act.put,zpa,zpb,zpc]
       refine par3_move (v:= ?_) 2 (by simp only[zga,zgb,zgc];rfl) (by kernel_rfl) (by rfl) ?_ (fun _ _ _ h=>h) ?_
       rotate_left
       ·(intro w9;go_simp;try with_reducible rfl)
       simp only[Act.put,zpa,zpb,zpc]
       refine par3_move (v:= ?_) 3 (by simp only[zga,zgb,zgc];rfl) (by kernel_rfl) (by rfl) ?_ (fun _ _ _ h=>h) ?_
       rotate_left
       ·(intro w9;go_simp;try with_reducible rfl)
       simp only[Act.put,zpa,zpb,zpc]
       refine par3_move (v:= ?_) 4 (by simp only[zga,zgb,zgc];rfl) (by kernel_rfl) (by rfl) ?_ (fun _ _ _ h=>h) ?_
       rotate_left
       ·(intro w9;go_simp;try with_reducible rfl)
       simp only[Act.put,zpa,zpb,zpc]
       refine par3_read8 (v:= ?_) 5 (by simp only[zga,zgb,zgc];rfl) (by kernel_rfl) (by rfl) HS0.out ?_ (fun _ _ _ h=>h) ?_
       rotate_left
       ·(intro w9 hSw;obtain⟨y0,y1,y2,y3,y4⟩:=(HY w9 hSw).out;clear hSw;go_simp;try with_reducible rfl)
       simp only[Act.put,zpa,zpb,zpc]
       refine par3_move (v:= ?_) 6 (by simp only[zga,zgb,zgc];rfl) (by kernel_rfl) (by rfl) ?_ (fun _ _ _ h=>h) ?_
       rotate_left
       ·(intro w9;go_simp;try with_reducible rfl)
       simp only[Act.put,zpa,zpb,zpc]
       refine par3_read8 (v:= ?_) 7 (by simp only[zga,zgb,zgc];rfl) (by kernel_rfl) (by rfl) HS0.out ?_ (fun _ _ _ h=>h) ?_
       rotate_left
       ·(intro w9 hSw;obtain⟨y0,y1,y2,y3,y4⟩:=(HY w9 hSw).out;clear hSw;go_simp;try with_reducible rfl)
       simp only[Act.put,zpa,zpb,zpc]
       refine par3_nm (fun W0 hW0=> ?_)
       rw[←hW0] at HS0
       clear hW0
       refine par3_two 8 10 (by simp only[zga,zgb,zgc];rfl) (by simp only[zga,zgb,zgc];rfl) (by kernel_rfl) (by rfl) (by rfl) ?_ ?_
       ·refine owp_call (by go_simp;constructor<;>rfl) ?_
        refine(HFX _ HS0.out).out.mono ?_
        rintro z W5 ⟨rfl,hb9⟩
        have HS5:=Lib.hid (below_next HS0.out HS0.out.size hb9)
        refine⟨_,rfl,fun s _=>HS5.out, ?_⟩
        clear hb9
        simp only[Act.put,zpa,zpb,zpc]
        refine par3_two 9 10 (by simp only[zga,zgb,zgc];rfl) (by simp only[zga,zgb,zgc];rfl) (by kernel_rfl) (by rfl) (by rfl) ?_ ?_
        ·refine owp_call (by go_simp;constructor<;>rfl) ?_
         refine(HAX _ HS5.out).out.mono ?_
         rintro z W6 ⟨rfl,hb9⟩
         have HS6:=Lib.hid (below_next HS5.out HS5.out.size hb9)
         refine⟨_,rfl,fun s _=>HS6.out, ?_⟩
         clear hb9
         simp only[Act.put,zpa,zpb,zpc]
         refine par3_one 10 (by simp only[zga,zgb,zgc];rfl) (by kernel_rfl) (by rfl) ?_
         refine owp_val (v:= ?_) (w1:= ?_) ?_ ?_
         rotate_left 2
         ·(go_simp;constructor<;>rfl)
         refine⟨fun s _=>s.alloc s.size _, ?_⟩
         simp only[Act.put,zpa,zpb,zpc]
         refine par3_tail _ (by simp only[List.drop_succ_cons,List.drop_zero];rfl) (by kernel_rfl) ?_
         go_wp2_with fail
         refine NoPanic.normal ?_
         go_step
         first|go_meet|(go_step;go_meet)
         exact⟨_,rfl,World.rowIs_alloc W6 #[.int .i64 q.x, .int .i64 q.y] 42 (ptF q) (ptF_get q),HS6.out.size,HS6.out.alloc HS6.out.size _⟩
        ·refine owp_val (v:= ?_) (w1:= ?_) ?_ ?_
         rotate_left 2
         ·(go_simp;constructor<;>rfl)
         refine⟨fun s _=>s.alloc s.size _, ?_⟩
         simp only[Act.put,zpa,zpb,zpc]
         have HRA:=Lib.hid (World.rowIs_alloc W5 #[.int .i64 0, .int .i64 0] 42 (ptF ⟨0,0⟩) (ptF_get ⟨0,0⟩))
         have HSA:=Lib.hid (HS5.out.alloc HS5.out.size (.cells #[.int .i64 0, .int .i64 0] 42))
         refine par3_nm (fun WA hW9=> ?_)
         rw[←hW9] at HRA HSA
         clear hW9
         refine par3_one 9 (by simp only[zga,zgb,zgc];rfl) (by kernel_rfl) (by rfl) ?_
         refine owp_call (by go_simp;constructor<;>rfl) ?_
         refine(HAX _ HSA.out).out.mono ?_
         rintro z W6 ⟨rfl,hb9⟩
         have HS6:=Lib.hid (below_next HSA.out HSA.out.size hb9)
         have HR6:=Lib.hid (rowIs_touch HRA.out (Touch.of_below (F:=[]) hb9) (by simp))
         refine⟨_,rfl,fun s _=>HS6.out, ?_⟩
         clear hb9
         simp only[Act.put,zpa,zpb,zpc]
         have f0:=fun i=>World.rowIs.frozen HR6.out i
         have q0:W6.cell? ⟨W5.heap.size,0,none⟩=some (.int .i64 0):=World.rowIs.cell HR6.out (i:=0) (by decide)
         have q1:W6.cell? ⟨W5.heap.size,1,none⟩=some (.int .i64 0):=World.rowIs.cell HR6.out (i:=1) (by decide)
         refine par3_tail _ (by simp only[List.drop_succ_cons,List.drop_zero];rfl) (by kernel_rfl) ?_
         go_wp2_with fail
         refine NoPanic.normal ?_
         go_step
         first|go_meet|(go_step;go_meet)
         exact⟨_,rfl,World.rowIs.congr (World.rowIs.set (World.rowIs.set HR6.out 0 _) 1 _) (fun i hi=>by rcases i with _|_|i<;>first|rfl|exact absurd hi (by omega)),HS5.out.size,(HS6.out.setCell HS5.out.size _).setCell HS5.out.size _⟩
       ·refine owp_val (v:= ?_) (w1:= ?_) ?_ ?_
        rotate_left 2
        ·(go_simp;constructor<;>rfl)
        refine⟨fun s _=>s.alloc s.size _, ?_⟩
        simp only[Act.put,zpa,zpb,zpc]
        have HRA:=Lib.hid (World.rowIs_alloc W0 #[.int .i64 0, .int .i64 0] 42 (ptF ⟨0,0⟩) (ptF_get ⟨0,0⟩))
        have HSA:=Lib.hid (HS0.out.alloc HS0.out.size (.cells #[.int .i64 0, .int .i64 0] 42))
        refine par3_nm (fun WA hW9=> ?_)
        rw[←hW9] at HRA HSA
        clear hW9
        refine par3_one 8 (by simp only[zga,zgb,zgc];rfl) (by kernel_rfl) (by rfl) ?_
        refine owp_call (by go_simp;constructor<;>rfl) ?_
        refine(HFX _ HSA.out).out.mono ?_
        rintro z W5 ⟨rfl,hb9⟩
        have HS5:=Lib.hid (below_next HSA.out HSA.out.size hb9)
        have HR5:=Lib.hid (rowIs_touch HRA.out (Touch.of_below (F:=[]) hb9) (by simp))
        refine⟨_,rfl,fun s _=>HS5.out, ?_⟩
        clear hb9
        simp only[Act.put,zpa,zpb,zpc]
        refine par3_one 9 (by simp only[zga,zgb,zgc];rfl) (by kernel_rfl) (by rfl) ?_
        refine owp_call (by go_simp;constructor<;>rfl) ?_
        refine(HAX _ HS5.out).out.mono ?_
        rintro z W6 ⟨rfl,hb9⟩
        have HS6:=Lib.hid (below_next HS5.out HS5.out.size hb9)
        have HR6:=Lib.hid (rowIs_touch HR5.out (Touch.of_below (F:=[]) hb9) (by simp))
        refine⟨_,rfl,fun s _=>HS6.out, ?_⟩
        clear hb9
        simp only[Act.put,zpa,zpb,zpc]
        have f0:=fun i=>World.rowIs.frozen HR6.out i
        have q0:W6.cell? ⟨W0.heap.size,0,none⟩=some (.int .i64 0):=World.rowIs.cell HR6.out (i:=0) (by decide)
        have q1:W6.cell? ⟨W0.heap.size,1,none⟩=some (.int .i64 0):=World.rowIs.cell HR6.out (i:=1) (by decide)
        refine par3_tail _ (by simp only[List.drop_succ_cons,List.drop_zero];rfl) (by kernel_rfl) ?_
        go_wp2_with fail
        refine NoPanic.normal ?_
        go_step
        first|go_meet|(go_step;go_meet)
        exact⟨_,rfl,World.rowIs.congr (World.rowIs.set (World.rowIs.set HR6.out 0 _) 1 _) (fun i hi=>by rcases i with _|_|i<;>first|rfl|exact absurd hi (by omega)),HS0.out.size,(HS6.out.setCell HS0.out.size _).setCell HS0.out.size _⟩
      case rest=>
      obtain⟨bq,rfl,hrq,hbq,hb⟩:=hcut
      obtain⟨wm,rfl⟩: ∃x:World,x=wc:=⟨_,rfl⟩
      have HRQ:=Lib.hid (show wm.rowIs bq 42 2 (ptF (leastK p L 0)) from by
       have e:leastK p L 0=q:=by rw[HQE.out];unfold leastK;rw[HHL.out];rfl
       rw[e];exact hrq)
      have HBM:=Lib.hid (below_step hb HBD.out)
      have hbz:wz.heap.size≤bq:=Nat.le_trans HBD.out.size hbq
      clear hrq hbq hb
      go_wp2_with fail
      go_loopw [11] (fun v wi=> ∃t:Nat,t≤L.length∧v= .int .i64 t∧wi.rowIs bq 42 2 (ptF (leastK p L t))∧Below wz.heap.size wz wi) (fun v _=>L.length - (intOf v).toNat)
      case atStart=>exact⟨0,Nat.zero_le _,rfl,HRQ.out,HBM.out⟩
      case round=>
       clear HRQ HBM
       obtain⟨t,ht,rfl,hrow,hb⟩:=hrel
       obtain⟨wi,rfl⟩: ∃x:World,x=wr:=⟨_,rfl⟩
       have HRQ:=Lib.hid hrow
       have HBI:=Lib.hid hb
       obtain⟨d0,d1,d2, -⟩:=(HYQ _ hb).out
       have hbqi:=World.rowIs.lt hrow
       clear hrow hb
       by_cases htl:t<L.length
       ·skip
        obtain⟨h,hh⟩: ∃h,L[t]? =some h:=⟨_,List.getElem?_eq_getElem htl⟩
        have HHT:=Lib.hid hh
        have hm:=HMH.out h (List.mem_of_getElem? hh)
        have HFX:=fun(W1:World) (hb:Below wi.heap.size wi W1)=>HFR W1 (below_step hb HBI.out) h hm
        have HAX:=fun(W1:World) (hb:Below wi.heap.size wi W1)=>HAT W1 (below_step hb HBI.out) h hm
        obtain⟨q,hq⟩: ∃q,q=(findV p.vs (fromH p.es h)).at_:=⟨_,rfl⟩
        have HK:=Lib.hid (show leastK p L (t+1)=if lessB q (leastK p L t)=true then q else leastK p L t from by rw[leastK_succ hh,hq,ptZ_find];rfl)
        rw[←hq] at HAX
        clear hq hh hm
        generalize fromH p.es h=fh at HFX HAX
        generalize leastK p L t=m at HK HRQ
        go_wp2_with fail
        clear d0 d1 d2
        go_cut [12] (fun v12 wx=> ∃bk,v12= .pointer (some ⟨bk,0,none⟩)∧wx.rowIs bk 42 2 (ptF q)∧wi.heap.size≤bk∧Below wi.heap.size wi wx)
        case first=>
         have HY:=fun(w':World) (hb:Below wi.heap.size wi w')=>Lib.hid (show w'.cell? ⟨w.heap.size,0,none⟩=some (.slice va vn vc)∧w'.cell? ⟨w.heap.size,1,none⟩=some (.slice ea en ec)∧w'.cell? ⟨lb,j,none⟩=some (.slice (some ⟨rg,0,none⟩) L.length rc)∧w'.cell? ⟨rg,t*2,none⟩=some (.int .i64 h.edge)∧w'.cell? ⟨rg,t*2+1,none⟩=some (.bool h.back) from by
          obtain⟨d0,d1,d2,d3⟩:=(HYQ _ (below_step hb HBI.out)).out
          have d4:=d3 t h HHT.out
          exact⟨d0,d1,d2,by simpa using d4⟩)
         have HS0:=Lib.hid (Below.refl wi.heap.size wi).drew
         refine wp_region_noPanic ?_
         refine wp_region_par3 12 12 (by kernel_rfl) (by kernel_rfl) (by simp) (by omega) (by kernel_rfl) (by kernel_rfl) (fun w':World=>Below wi.heap.size wi w') ?_
         refine par3_read8 (v:= ?_) 0 (by simp only[zga,zgb,zgc];rfl) (by kernel_rfl) (by rfl) HS0.out ?_ (fun _ _ _ h=>h) ?_
         rotate_left
         ·(intro w9 hSw;obtain⟨y0,y1,y2,y3,y4⟩:=(HY w9 hSw).out;clear hSw;go_simp;try with_reducible rfl)
         simp only[Act.put,zpa,zpb,zpc]
         refine par3_read8 (v:= ?_) 1 (by simp only[zga,zgb,zgc];rfl) (by kernel_rfl) (by rfl) HS0.out ?_ (fun _ _ _ h=>h) ?_
         rotate_left
         ·(intro w9 hSw;obtain⟨y0,y1,y2,y3,y4⟩:=(HY w9 hSw).out;clear hSw;go_simp;try with_reducible rfl)
         simp only[Act.put,zpa,zpb,zpc]
         refine par3_move (v:= ?_) 2 (by simp only[zga,zgb,zgc];rfl) (by kernel_rfl) (by rfl) ?_ (fun _ _ _ h=>h) ?_
         rotate_left
         ·(intro w9;go_simp;try with_reducible rfl)
         simp only[Act.put,zpa,zpb,zpc]
         refine par3_move (v:= ?_) 3 (by simp only[zga,zgb,zgc];rfl) (by kernel_rfl) (by rfl) ?_ (fun _ _ _ h=>h) ?_
         rotate_left
         ·(intro w9;go_simp;try with_reducible rfl)
         simp only[Act.put,zpa,zpb,zpc]
         refine par3_move (v:= ?_) 4 (by simp only[zga,zgb,zgc];rfl) (by kernel_rfl) (by rfl) ?_ (fun _ _ _ h=>h) ?_
         rotate_left
         ·(intro w9;go_simp;try with_reducible rfl)
         simp only[Act.put,zpa,zpb,zpc]
         refine par3_read8 (v:= ?_) 5 (by simp only[zga,zgb,zgc];rfl) (by kernel_rfl) (by rfl) HS0.out ?_ (fun _ _ _ h=>h) ?_
         rotate_left
         ·(intro w9 hSw;obtain⟨y0,y1,y2,y3,y4⟩:=(HY w9 hSw).out;clear hSw;go_simp;try with_reducible rfl)
         simp only[Act.put,zpa,zpb,zpc]
         refine par3_move (v:= ?_) 6 (by simp only[zga,zgb,zgc];rfl) (by kernel_rfl) (by rfl) ?_ (fun _ _ _ h=>h) ?_
         rotate_left
         ·(intro w9;go_simp;try with_reducible rfl)
         simp only[Act.put,zpa,zpb,zpc]
         refine par3_move (v:= ?_) 7 (by simp only[zga,zgb,zgc];rfl) (by kernel_rfl) (by rfl) ?_ (fun _ _ _ h=>h) ?_
         rotate_left
         ·(intro w9;go_simp;try with_reducible rfl)
         simp only[Act.put,zpa,zpb,zpc]
         refine par3_read8 (v:= ?_) 8 (by simp only[zga,zgb,zgc];rfl) (by kernel_rfl) (by rfl) HS0.out ?_ (fun _ _ _ h=>h) ?_
         rotate_left
         ·(intro w9 hSw;obtain⟨y0,y1,y2,y3,y4⟩:=(HY w9 hSw).out;clear hSw;go_simp;try with_reducible rfl)
         simp only[Act.put,zpa,zpb,zpc]
         refine par3_nm (fun W0 hW0=> ?_)
         rw[←hW0] at HS0
         clear hW0
         refine par3_two 9 11 (by simp only[zga,zgb,zgc];rfl) (by simp only[zga,zgb,zgc];rfl) (by kernel_rfl) (by rfl) (by rfl) ?_ ?_
         ·refine owp_call (by go_simp;constructor<;>rfl) ?_
          refine(HFX _ HS0.out).out.mono ?_
          rintro z W5 ⟨rfl,hb9⟩
          have HS5:=Lib.hid (below_next HS0.out HS0.out.size hb9)
          refine⟨_,rfl,fun s _=>HS5.out, ?_⟩
          clear hb9
          simp only[Act.put,zpa,zpb,zpc]
          refine par3_two 10 11 (by simp only[zga,zgb,zgc];rfl) (by simp only[zga,zgb,zgc];rfl) (by kernel_rfl) (by rfl) (by rfl) ?_ ?_
          ·refine owp_call (by go_simp;constructor<;>rfl) ?_
           refine(HAX _ HS5.out).out.mono ?_
           rintro z W6 ⟨rfl,hb9⟩
           have HS6:=Lib.hid (below_next HS5.out HS5.out.size hb9)
           refine⟨_,rfl,fun s _=>HS6.out, ?_⟩
           clear hb9
           simp only[Act.put,zpa,zpb,zpc]
           refine par3_one 11 (by simp only[zga,zgb,zgc];rfl) (by kernel_rfl) (by rfl) ?_
           refine owp_val (v:= ?_) (w1:= ?_) ?_ ?_
           rotate_left 2
           ·(go_simp;constructor<;>rfl)
           refine⟨fun s _=>s.alloc s.size _, ?_⟩
           simp only[Act.put,zpa,zpb,zpc]
           refine par3_tail _ (by simp only[List.drop_succ_cons,List.drop_zero];rfl) (by kernel_rfl) ?_
           go_wp2_with fail
           refine NoPanic.normal ?_
           go_step
           first|go_meet|(go_step;go_meet)
           exact⟨_,rfl,World.rowIs_alloc W6 #[.int .i64 q.x, .int .i64 q.y] 42 (ptF q) (ptF_get q),HS6.out.size,HS6.out.alloc HS6.out.size _⟩
          ·refine owp_val (v:= ?_) (w1:= ?_) ?_ ?_
           rotate_left 2
           ·(go_simp;constructor<;>rfl)
           refine⟨fun s _=>s.alloc s.size _, ?_⟩
           simp only[Act.put,zpa,zpb,zpc]
           have HRA:=Lib.hid (World.rowIs_alloc W5 #[.int .i64 0, .int .i64 0] 42 (ptF ⟨0,0⟩) (ptF_get ⟨0,0⟩))
           have HSA:=Lib.hid (HS5.out.alloc HS5.out.size (.cells #[.int .i64 0, .int .i64 0] 42))
           refine par3_nm (fun WA hW9=> ?_)
           rw[←hW9] at HRA HSA
           clear hW9
           refine par3_one 10 (by simp only[zga,zgb,zgc];rfl) (by kernel_rfl) (by rfl) ?_
           refine owp_call (by go_simp;constructor<;>rfl) ?_
           refine(HAX _ HSA.out).out.mono ?_
           rintro z W6 ⟨rfl,hb9⟩
           have HS6:=Lib.hid (below_next HSA.out HSA.out.size hb9)
           have HR6:=Lib.hid (rowIs_touch HRA.out (Touch.of_below (F:=[]) hb9) (by simp))
           refine⟨_,rfl,fun s _=>HS6.out, ?_⟩
           clear hb9
           simp only[Act.put,zpa,zpb,zpc]
           have f0:=fun i=>World.rowIs.frozen HR6.out i
           have q0:W6.cell? ⟨W5.heap.size,0,none⟩=some (.int .i64 0):=World.rowIs.cell HR6.out (i:=0) (by decide)
           have q1:W6.cell? ⟨W5.heap.size,1,none⟩=some (.int .i64 0):=World.rowIs.cell HR6.out (i:=1) (by decide)
           refine par3_tail _ (by simp only[List.drop_succ_cons,List.drop_zero];rfl) (by kernel_rfl) ?_
           go_wp2_with fail
           refine NoPanic.normal ?_
           go_step
           first|go_meet|(go_step;go_meet)
           exact⟨_,rfl,World.rowIs.congr (World.rowIs.set (World.rowIs.set HR6.out 0 _) 1 _) (fun i hi=>by rcases i with _|_|i<;>first|rfl|exact absurd hi (by omega)),HS5.out.size,(HS6.out.setCell HS5.out.size _).setCell HS5.out.size _⟩
         ·refine owp_val (v:= ?_) (w1:= ?_) ?_ ?_
          rotate_left 2
          ·(go_simp;constructor<;>rfl)
          refine⟨fun s _=>s.alloc s.size _, ?_⟩
          simp only[Act.put,zpa,zpb,zpc]
          have HRA:=Lib.hid (World.rowIs_alloc W0 #[.int .i64 0, .int .i64 0] 42 (ptF ⟨0,0⟩) (ptF_get ⟨0,0⟩))
          have HSA:=Lib.hid (HS0.out.alloc HS0.out.size (.cells #[.int .i64 0, .int .i64 0] 42))
          refine par3_nm (fun WA hW9=> ?_)
          rw[←hW9] at HRA HSA
          clear hW9
          refine par3_one 9 (by simp only[zga,zgb,zgc];rfl) (by kernel_rfl) (by rfl) ?_
          refine owp_call (by go_simp;constructor<;>rfl) ?_
          refine(HFX _ HSA.out).out.mono ?_
          rintro z W5 ⟨rfl,hb9⟩
          have HS5:=Lib.hid (below_next HSA.out HSA.out.size hb9)
          have HR5:=Lib.hid (rowIs_touch HRA.out (Touch.of_below (F:=[]) hb9) (by simp))
          refine⟨_,rfl,fun s _=>HS5.out, ?_⟩
          clear hb9
          simp only[Act.put,zpa,zpb,zpc]
          refine par3_one 10 (by simp only[zga,zgb,zgc];rfl) (by kernel_rfl) (by rfl) ?_
          refine owp_call (by go_simp;constructor<;>rfl) ?_
          refine(HAX _ HS5.out).out.mono ?_
          rintro z W6 ⟨rfl,hb9⟩
          have HS6:=Lib.hid (below_next HS5.out HS5.out.size hb9)
          have HR6:=Lib.hid (rowIs_touch HR5.out (Touch.of_below (F:=[]) hb9) (by simp))
          refine⟨_,rfl,fun s _=>HS6.out, ?_⟩
          clear hb9
          simp only[Act.put,zpa,zpb,zpc]
          have f0:=fun i=>World.rowIs.frozen HR6.out i
          have q0:W6.cell? ⟨W0.heap.size,0,none⟩=some (.int .i64 0):=World.rowIs.cell HR6.out (i:=0) (by decide)
          have q1:W6.cell? ⟨W0.heap.size,1,none⟩=some (.int .i64 0):=World.rowIs.cell HR6.out (i:=1) (by decide)
          refine par3_tail _ (by simp only[List.drop_succ_cons,List.drop_zero];rfl) (by kernel_rfl) ?_
          go_wp2_with fail
          refine NoPanic.normal ?_
          go_step
          first|go_meet|(go_step;go_meet)
          exact⟨_,rfl,World.rowIs.congr (World.rowIs.set (World.rowIs.set HR6.out 0 _) 1 _) (fun i hi=>by rcases i with _|_|i<;>first|rfl|exact absurd hi (by omega)),HS0.out.size,(HS6.out.setCell HS0.out.size _).setCell HS0.out.size _⟩
        case rest=>
        obtain⟨bk,rfl,hrk,hbk,hb⟩:=hcut
        obtain⟨wk,rfl⟩: ∃x:World,x=wc:=⟨_,rfl⟩
        have HRK:=Lib.hid hrk
        have HRM:=Lib.hid (rowIs_touch HRQ.out (Touch.of_below (F:=[]) hb) (by simp))
        have HBK:=Lib.hid (below_step hb HBI.out)
        have hne:bq≠bk:=by omega
        have hne2:bk≠bq:=by omega
        have a0:wk.cell? ⟨bk,0,none⟩=some (.int .i64 q.x):=World.rowIs.cell hrk (i:=0) (by decide)
        have a1:wk.cell? ⟨bk,1,none⟩=some (.int .i64 q.y):=World.rowIs.cell hrk (i:=1) (by decide)
        have b0:wk.cell? ⟨bq,0,none⟩=some (.int .i64 m.x):=World.rowIs.cell HRM.out (i:=0) (by decide)
        have b1:wk.cell? ⟨bq,1,none⟩=some (.int .i64 m.y):=World.rowIs.cell HRM.out (i:=1) (by decide)
        have HLT:=fun W=>Lib.hid (r5less_any q m W)
        generalize lessB q m=lz at HLT HK
        clear hrk hbk hb
        go_wp2_with fail
        refine(HLT _).out.mono ?_
        rintro e w9 ⟨rfl,hb9⟩
        have HRK9:=Lib.hid (rowIs_touch HRK.out (Touch.of_below (F:=[]) hb9) (by simp))
        have HRM9:=Lib.hid (rowIs_touch HRM.out (Touch.of_below (F:=[]) hb9) (by simp))
        have HB9:=Lib.hid (below_step hb9 HBK.out)
        clear hb9 a0 a1 b0 b1
        cases lz
        ·go_wp2_with fail
         go_roundw
         case rel=>exact⟨t+1,by omega,by go_num,by rw[HK.out];exact HRM9.out,HB9.out⟩
         case measure=>simp[intOf];omega
        ·have a0:w9.cell? ⟨bk,0,none⟩=some (.int .i64 q.x):=World.rowIs.cell HRK9.out (i:=0) (by decide)
         have a1:w9.cell? ⟨bk,1,none⟩=some (.int .i64 q.y):=World.rowIs.cell HRK9.out (i:=1) (by decide)
         have b0:w9.cell? ⟨bq,0,none⟩=some (.int .i64 m.x):=World.rowIs.cell HRM9.out (i:=0) (by decide)
         have b1:w9.cell? ⟨bq,1,none⟩=some (.int .i64 m.y):=World.rowIs.cell HRM9.out (i:=1) (by decide)
         have f0:=fun i=>World.rowIs.frozen HRM9.out i
         go_wp2_with fail
         go_roundw
         case rel=>exact⟨t+1,by omega,by go_num,by rw[HK.out];exact World.rowIs.congr (World.rowIs.set (World.rowIs.set HRM9.out 0 _) 1 _) (fun i hi=>by rcases i with _|_|i<;>first|rfl|exact absurd hi (by omega)),(HB9.out.setCell hbz _).setCell hbz _⟩
         case measure=>simp[intOf];omega
       ·skip
        obtain rfl:t=L.length:=by omega
        have hlp:leastK p L L.length=leastPt p L:=by unfold leastK leastPt;rw[List.take_length]
        have HMI:=Lib.hid (show inB (leastPt p L)=true from hlp▸leastK_in HR.out HMH.out (by rw[HHL.out];exact HXM.out) L.length)
        rw[hlp] at HRQ
        have HIX:=idx_lt (p:=p) (pieceR p) (leastPt p L) (pieceR p (frA p L))
        obtain⟨I,hIe⟩: ∃I:Nat,I=idxI p (pieceR p) L:=⟨_,rfl⟩
        have HII:=Lib.hid hIe
        have HIE:=Lib.hid (show I<k+1∧(I:Int)=1+aroundP ((orsP p).map (ouOf (pieceR p))) (leastPt p L) (pieceR p (frA p L)) from by rw[hIe,HON.out];exact HIX)
        have hIN:=HIE.out.1
        clear hIe HIX
        have hiv:=(HR.out.halfIn (mem_known HXM.out)).from_
        obtain⟨hp1,hp2⟩:=placeV_at hiv
        have hpl:placeV p.vs (fromH p.es x)<vn:=by have:=(List.getElem?_eq_some_iff.1 hp1).1;have:=HVL.out;omega
        obtain⟨pb,poff,rfl,hpb,hpc⟩:=(HNS wz HI.out.tch).out.row (by omega)
        have HPC:=fun(W1:World) (hb:Below wz.heap.size wz W1)=>Lib.hid (hpc W1 hb _ _ (rowN_get hpl))
        have HFX:=fun(W1:World) (hb:Below wz.heap.size wz W1)=>HFR W1 hb x HXM.out
        have HVA:=fun(W1:World) (hb:Below wz.heap.size wz W1)=>Lib.hid (r15vertex_any (w:=W1) (vc:=vc) (HVT W1 (HTQ W1 hb).out).out.1 (Nat.le_refl _) (by omega) (.slice ea en ec) ⟨_,_,_,rfl⟩ (fromH p.es x))
        rw[hp2] at HVA
        have HLQ:=fun(W1:World) (hb:Below wz.heap.size wz W1)=>HLS W1 (HTQ W1 hb).out (leastPt p L) HMI.out (pieceR p (frA p L))
        have hIQ:=HIE.out.2
        rw[HPV.out] at HLQ hIQ
        generalize fromH p.es x=fx at*
        generalize placeV p.vs fx=pl at*
        generalize roundsL (placesE p) vn pl=pv at*
        generalize leastPt p L=m at*
        generalize aroundP ((orsP p).map (ouOf (pieceR p))) m (pv:Int)=Q at HLQ hIQ
        obtain rfl:Q=(I:Int) - 1:=by omega
        have hwI:IntKind.i64.wrap (1+((I:Int) - 1))=(I:Int):=by rw[show 1+((I:Int) - 1)=I by omega];exact IntWalk.i64_in _ (by omega)
        have HB:=HBT _ (HTQ wi HBI.out).out
        clear hpc hiv hp1 hp2 hIQ d0 d1
        obtain⟨qx0,qx1⟩:=(HC _ HB.out).out
        have rx0:=(HZ _ HB.out.size).out
        go_wp2_with fail
        refine wp_name (fun c6 hc6=> ?_)
        have HB:=Lib.hid (touch_name HB.out (by repeat (first|exact Below.refl _ _|refine below_alloc ?_)) hc6)
        have HXC:=Lib.hid (hc6▸HBI.out);have HRC:=Lib.hid (hc6▸HRQ.out);have HFXL:=fun(x0:Later c6)=>HFX x0.1 (below_step x0.2 HXC.out);have HVAL:=fun(x0:Later c6)=>HVA x0.1 (below_step x0.2 HXC.out);have HLQL:=fun(x0:Later c6)=>HLQ x0.1 (below_step x0.2 HXC.out);have y5:=fun(x0:Later c6)=>show x0.1.cell? ⟨bq,0,none⟩=some (.int .i64 m.x) from World.rowIs.cell (rowIs_touch HRC.out (Touch.of_below (F:=[]) x0.2) (by simp)) (i:=0) (by decide);have y6:=fun(x0:Later c6)=>show x0.1.cell? ⟨bq,1,none⟩=some (.int .i64 m.y) from World.rowIs.cell (rowIs_touch HRC.out (Touch.of_below (F:=[]) x0.2) (by simp)) (i:=1) (by decide);have y7:=fun(x0:Later c6)=>(HYQ x0.1 (below_step x0.2 HXC.out)).out.2.2.1;have y8:=fun(x0:Later c6)=>show x0.1.cell? ⟨rg,0,none⟩=some (.int .i64 x.edge)∧x0.1.cell? ⟨rg,1,none⟩=some (.bool x.back) from(by simpa using (HYQ x0.1 (below_step x0.2 HXC.out)).out.2.2.2 0 x HHX.out);have y9:=fun(x0:Later c6)=>(HPC x0.1 (below_step x0.2 HXC.out)).out
        clear hc6
        have xx:=fun(x:Later c6)=>(HC _ (touch_later HB.out x.2)).out
        simp only[forall_and] at xx
        obtain⟨xx0,xx1⟩:=xx
        refine wp_region_later (by kernel_rfl) (by kernel_rfl) ?_
        repeat (first|go_big_quiet_step (((first|(go_at_call 33;with_reducible refine Later.call (HFXL _).out)|(go_at_call 23;with_reducible refine Later.call (HVAL _).out)|(go_at_call 35;with_reducible refine Later.call (HLQL _).out))))|quiet_step (((first|(go_at_call 33;with_reducible refine Later.call (HFXL _).out)|(go_at_call 23;with_reducible refine Later.call (HVAL _).out)|(go_at_call 35;with_reducible refine Later.call (HLQL _).out)))))
        refine wpQuiet_nil ?_
        intro wt hw6
        have hb6:=later_below hw6
        clear hw6
        have HB:=Lib.hid (touch_later HB.out hb6)
        clear xx0 xx1
        clear qx0 qx1 rx0
        obtain⟨qx0,qx1⟩:=(HC _ HB.out).out
        have HBt:=Lib.hid (below_step hb6 HXC.out)
        clear hb6
        have rx0:=(HZ _ HB.out.size).out
        clear qx0 qx1 rx0
        clear d2
        have HZt:=Lib.hid (HI.out.below HBt.out)
        have HIN2:=Lib.hid (show I<(rmQ p (pieceR p) j).length from by rw[rmQ_len, ←HON.out];exact hIN)
        have hIN3:(I:Int)<(k:Int)+1:=by omega
        have hkb:k≤400:=hon
        obtain⟨vI,hvI⟩: ∃v,v=VI I:=⟨_,rfl⟩
        have HVV:=Lib.hid hvI
        have HOI:=Lib.hid (show wt.ownsRow w2.heap.size 33 1 vI (ZI I).length (ZI I) from hvI▸HZt.out.rl.fi.own I)
        have HZL:=Lib.hid (show(ZI I).length≤400 from by
         have h1:=(HZt.out.rl.hin I).1
         have h2:=rmI_inner_len (p:=p) (pieceR p) (innK p j).length I
         have h3:=innK_len p j
         have h4:=HLN.out
         unfold rmQ at h1
         omega)
        have HY:=fun(w':World) (t':Touch vI.ownBlock.toList wt w')=>Lib.hid (show w'.cell? ⟨gb,I*3+1,none⟩=some vI∧w'.cell? ⟨lb,j,none⟩=some (.slice (some ⟨rg,0,none⟩) L.length rc)∧HsAt w' rg 0 L∧True∧True from by
         have row4:=HZt.out.rl.row
         have r1:=ownsRow_touch row4 t' (fun x hx=>by cases hx;exact fun hm=>own_apart row4 HOI.out (by decide) (g:=gb) rfl (Option.mem_toList.1 hm))
         have no: ∀q,q<w2.heap.size→q∉vI.ownBlock.toList:=fun q hq hm=>by have:=(HOI.out.lt q (Option.mem_toList.1 hm)).1;omega
         obtain⟨-, -,d2,d3⟩:=(HYQ _ HBt.out).out
         have hz:=HHG.out
         have hs:=HBt.out.size
         exact⟨(addr_add0 gb (I*3+1))▸r1.cells (g:=gb) rfl (j:=I*3+1) (u:=vI) (flatMap_get (n:=3) (f:=fun i=>[hZ Ho i,VI i,nilZ i]) (fun _=>rfl) (List.range (rmQ p (pieceR p) j).length) I 1 I vI (by rw[List.getElem?_range HIN2.out]) (by rw[HVV.out];rfl)),(t'.cell (p:=⟨lb,j,none⟩) (Nat.lt_of_lt_of_le hlbz hs) (no lb HLB.out)).trans d2,d3.touch t' (Nat.lt_of_lt_of_le hrgz hs) (no rg hz.2),trivial,trivial⟩)
        have HS0:=Lib.hid (Touch.refl vI.ownBlock.toList wt).drew
        have ID:=Lib.hid (HZt.out.below (Below.refl wt.heap.size wt).drew)
        have HSZ:=Lib.hid (show w2.heap.size≤wt.heap.size from HZt.out.size)
        clear hvI
        go_upto_region 22 with fail
        refine wp_region_noPanic ?_
        refine wp_region_par3 15 15 (by kernel_rfl) (by kernel_rfl) (by simp) (by omega) (by kernel_rfl) (by kernel_rfl) (fun w':World=>Touch vI.ownBlock.toList wt w') ?_
        refine par3_move (v:= ?_) 0 (by simp only[zga,zgb,zgc];rfl) (by kernel_rfl) (by rfl) ?_ (fun _ _ _ h=>h) ?_
        rotate_left
        ·(intro w9;go_simp;try with_reducible rfl)
        simp only[Act.put,zpa,zpb,zpc]
        refine par3_move (v:= ?_) 1 (by simp only[zga,zgb,zgc];rfl) (by kernel_rfl) (by rfl) ?_ (fun _ _ _ h=>h) ?_
        rotate_left
        ·(intro w9;go_simp;try with_reducible rfl)
        simp only[Act.put,zpa,zpb,zpc]
        refine par3_move (v:= ?_) 2 (by simp only[zga,zgb,zgc];rfl) (by kernel_rfl) (by rfl) ?_ (fun _ _ _ h=>h) ?_
        rotate_left
        ·(intro w9;go_simp;try with_reducible rfl)
        simp only[Act.put,zpa,zpb,zpc]
        refine par3_move (v:= ?_) 3 (by simp only[zga,zgb,zgc];rfl) (by kernel_rfl) (by rfl) ?_ (fun _ _ _ h=>h) ?_
        rotate_left
        ·(intro w9;go_simp;try with_reducible rfl)
        simp only[Act.put,zpa,zpb,zpc]
        refine par3_move (v:= ?_) 4 (by simp only[zga,zgb,zgc];rfl) (by kernel_rfl) (by rfl) ?_ (fun _ _ _ h=>h) ?_
        rotate_left
        ·(intro w9;go_simp;try with_reducible rfl)
        simp only[Act.put,zpa,zpb,zpc]
        refine par3_move (v:= ?_) 5 (by simp only[zga,zgb,zgc];rfl) (by kernel_rfl) (by rfl) ?_ (fun _ _ _ h=>h) ?_
        rotate_left
        ·(intro w9;go_simp;try with_reducible rfl)
        simp only[Act.put,zpa,zpb,zpc]
        refine par3_read8 (v:= ?_) 6 (by simp only[zga,zgb,zgc];rfl) (by kernel_rfl) (by rfl) HS0.out ?_ (fun _ _ _ h=>h) ?_
        rotate_left
        ·(intro w9 hSw;obtain⟨y0,y1,y2,y3,y4⟩:=(HY w9 hSw).out;clear hSw;go_simp;try with_reducible rfl)
        simp only[Act.put,zpa,zpb,zpc]
        refine par3_move (v:= ?_) 7 (by simp only[zga,zgb,zgc];rfl) (by kernel_rfl) (by rfl) ?_ (fun _ _ _ h=>h) ?_
        rotate_left
        ·(intro w9;go_simp;try with_reducible rfl)
        simp only[Act.put,zpa,zpb,zpc]
        refine par3_move (v:= ?_) 8 (by simp only[zga,zgb,zgc];rfl) (by kernel_rfl) (by rfl) ?_ (fun _ _ _ h=>h) ?_
        rotate_left
        ·(intro w9;go_simp;try with_reducible rfl)
        simp only[Act.put,zpa,zpb,zpc]
        refine par3_move (v:= ?_) 9 (by simp only[zga,zgb,zgc];rfl) (by kernel_rfl) (by rfl) ?_ (fun _ _ _ h=>h) ?_
        rotate_left
        ·(intro w9;go_simp;try with_reducible rfl)
        simp only[Act.put,zpa,zpb,zpc]
        refine par3_read8 (v:= ?_) 10 (by simp only[zga,zgb,zgc];rfl) (by kernel_rfl) (by rfl) HS0.out ?_ (fun _ _ _ h=>h) ?_
        rotate_left
        ·(intro w9 hSw;obtain⟨y0,y1,y2,y3,y4⟩:=(HY w9 hSw).out;clear hSw;go_simp;try with_reducible rfl)
        simp only[Act.put,zpa,zpb,zpc]
        refine par3_nm (fun W8 hW8=> ?_)
        rw[←hW8] at HS0 ID
        clear hW8
        have HOW9:=Lib.hid (show W8.ownsRow w2.heap.size 33 1 vI (ZI I).length (ZI I) from HVV.out▸ID.out.rl.fi.own I)
        have HHD:=Lib.hid (show HdR (zK (w.heap.size+1+1) w1.heap.size wp.heap.size) w2.heap.size W8 (.slice (some ⟨rg,0,none⟩) L.length rc) L from .inr ⟨rg,rc,rfl, .inr HHG.out.1,HHG.out.2,(HY _ HS0.out).out.2.2.1⟩)
        refine par3_one 11 (by simp only[zga,zgb,zgc];rfl) (by kernel_rfl) (by rfl) ?_
        refine owp_val (v:= ?_) (w1:= ?_) ?_ ?_
        rotate_left 2
        ·(go_simp;constructor<;>rfl)
        refine⟨fun s _=>s.alloc _, ?_⟩
        simp only[Act.put,zpa,zpb,zpc]
        refine par3_one 12 (by simp only[zga,zgb,zgc];rfl) (by kernel_rfl) (by rfl) ?_
        refine owp_append_near rfl (.tmp 118) (.tmp 123) 34 rfl w2.heap.size 33 j0 (.slice none 0 0) 1 24 Tryz.underlying34 hj0 hy0 hy1 hy2 rfl (by decide) vI (ZI I).length _ rfl (HOW9.out.alloc _) ⟨W8.heap.size,0,none⟩ 1 1 [.slice (some ⟨rg,0,none⟩) L.length rc] rfl (by decide) rfl (cell_list_at _ [.slice (some ⟨rg,0,none⟩) L.length rc] _ rfl) (by simp[Value.oneCell']) (by have:=HZL.out;unfold maxLen;omega) (by have:=HZL.out;omega) (by have h1:=HSZ.out;have h2:=HS0.out.size;simp;omega) ?_
        intro g10 cap10 w10 hown hgr hat
        have hb9:Below W8.heap.size W8 (W8.alloc (.cells #[.slice (some ⟨rg,0,none⟩) L.length rc] 33)):=below_alloc (Below.refl _ _)
        have k9:=(Touch.of_below (F:=vI.ownBlock.toList) hb9).trans (Touch.of_grown hgr) (fun x hx=> .inl hx)
        have row9:=ownsRow_touch ID.out.rl.row k9 (fun x hx=>by cases hx;exact fun hm=>own_apart ID.out.rl.row HOW9.out (by decide) (g:=gb) rfl (Option.mem_toList.1 hm))
        have f9:=fun i=>own_fz row9 i
        have c9:w10.cell? ⟨gb,I*3+1,none⟩=some vI:=(addr_add0 gb (I*3+1))▸row9.cells (g:=gb) rfl (j:=I*3+1) (u:=vI) (flatMap_get (n:=3) (f:=fun i=>[hZ Ho i,VI i,nilZ i]) (fun _=>rfl) (List.range (rmQ p (pieceR p) j).length) I 1 I vI (by rw[List.getElem?_range HIN2.out]) (by rw[HVV.out];rfl))
        have I9:=Lib.hid (ID.out.addI HIN2.out HHD.out hb9 hown (HVV.out▸hgr) (HVV.out▸hat))
        refine⟨fun s _=>s.trans (Touch.of_grown hgr) (fun b hb=> .inl hb), ?_⟩
        clear hown hgr hat hb9 k9 row9
        simp only[Act.put,zpa,zpb,zpc]
        refine par3_move (v:= ?_) 13 (by simp only[zga,zgb,zgc];rfl) (by kernel_rfl) (by rfl) ?_ (fun _ _ _ h=>h) ?_
        rotate_left
        ·(intro w9;go_simp;try with_reducible rfl)
        simp only[Act.put,zpa,zpb,zpc]
        refine par3_move (v:= ?_) 14 (by simp only[zga,zgb,zgc];rfl) (by kernel_rfl) (by rfl) ?_ (fun _ _ _ h=>h) ?_
        rotate_left
        ·(intro w9;go_simp;try with_reducible rfl)
        simp only[Act.put,zpa,zpb,zpc]
        refine par3_tail _ (by simp only[List.drop_succ_cons,List.drop_zero];rfl) (by kernel_rfl) ?_
        go_wp2_with fail
        refine NoPanic.normal ?_
        go_wp2_with fail
        go_roundw
        case rel=>exact⟨j+1,_,_,by omega,by go_num,by rw[HN.out, ←HII.out];exact I9.out⟩
        case measure=>simp[intOf];omega
    ·skip
     have HZV:=Lib.hid (show ZS (zK (w.heap.size+1+1) w1.heap.size wp.heap.size) w2 wz gb capb (rmV p (pieceR p) (-1) 0) (hZ Ho) VI nilZ ZI from by
      rw[←rmQ_done (pieceR p) (k:=j) (by have:=HLN.out;omega) (-1)]
      exact HI.out)
     have hkb:k≤400:=hon
     clear HI
     obtain⟨qx0,qx1⟩:=(HC _ HB.out).out
     have rx0:=(HZ _ HB.out.size).out
     go_wp2_with fail
     clear qx0 qx1 rx0
     clear hjl
     go_loopw [14] (fun v wr=> ∃(t:Nat) (VA:Nat→Value),t≤vn∧v= .int .i64 t∧ZS (zK (w.heap.size+1+1) w1.heap.size wp.heap.size) w2 wr gb capb (rmV p (pieceR p) (-1) t) (hZ Ho) VI VA ZI) (fun v _=>vn - (intOf v).toNat)
     case atStart=>exact⟨0,_,Nat.zero_le _,rfl,HZV.out⟩
     case round=>
      clear HZV HX HB
      obtain⟨t,VA,ht,rfl,hZ⟩:=hrel
      obtain⟨wv,rfl⟩: ∃x:World,x=wr:=⟨_,rfl⟩
      have HI:=Lib.hid hZ
      have HX:=HXT _ hZ.tch
      have HB:=HBT _ hZ.tch
      clear hZ
      obtain⟨qx0,qx1⟩:=(HC _ HB.out).out
      have rx0:=(HZ _ HB.out.size).out
      by_cases htl:t<vn
      ·skip
       obtain⟨vb,voff,rfl,hvb,hcell⟩:=HV.out.row (by omega)
       obtain⟨v,hv⟩: ∃v,p.vs[t]? =some v:=⟨_,List.getElem?_eq_getElem (by have:=HVL.out;omega)⟩
       have HVK:=Lib.hid hv
       have HVR:=Lib.hid (HR.out.v t v hv).inr
       have HTQ:=fun(W1:World) (hb:Below wv.heap.size wv W1)=>Lib.hid (show Touch [gb] w2 W1 from HI.out.tch.trans (Touch.of_below (F:=[]) hb) (by simp))
       have HYV:=fun(W1:World) (hb:Below wv.heap.size wv W1)=>Lib.hid (show W1.cell? ⟨w.heap.size,0,none⟩=some (.slice (some ⟨vb,voff,none⟩) vn vc)∧W1.cell? ⟨w.heap.size,1,none⟩=some (.slice ea en ec)∧W1.cell? ⟨vb,voff+t*3,none⟩=some (.int .i64 v.id)∧W1.cell? ⟨vb,voff+t*3+1,none⟩=some (.int .i64 v.at_.x)∧W1.cell? ⟨vb,voff+t*3+1+1,none⟩=some (.int .i64 v.at_.y) from by
        obtain⟨d0,d1⟩:=(HC _ (HBT _ (HTQ W1 hb).out).out).out
        exact⟨d0,d1,hcell W1 ((HXT _ (HTQ W1 hb).out).out.mono hB) t v hv⟩)
       have HDG:=fun(W1:World) (hb:Below wv.heap.size wv W1)=>Lib.hid (r15degree_any (w:=W1) (ec:=ec) (HVT W1 (HTQ W1 hb).out).out.2 (Nat.le_refl _) (by omega) (.slice (some ⟨vb,voff,none⟩) vn vc) ⟨_,_,_,rfl⟩ v.id)
       have hvbw:vb<w.heap.size:=by omega
       clear hcell hv
       go_wp2_with fail
       clear qx0 qx1 rx0
       have HY:=fun(w':World) (hb:Below wv.heap.size wv w')=>HYV w' hb
       have HS0:=Lib.hid (Below.refl wv.heap.size wv).drew
       refine wp_region_noPanic ?_
       refine wp_region_par3 8 8 (by kernel_rfl) (by kernel_rfl) (by simp) (by omega) (by kernel_rfl) (by kernel_rfl) (fun w':World=>Below wv.heap.size wv w') ?_
       refine par3_read8 (v:= ?_) 0 (by simp only[zga,zgb,zgc];rfl) (by kernel_rfl) (by rfl) HS0.out ?_ (fun _ _ _ h=>h) ?_
       rotate_left
       ·(intro w9 hSw;obtain⟨y0,y1,y2,y3,y4⟩:=(HY w9 hSw).out;clear hSw;go_simp;try with_reducible rfl)
       simp only[Act.put,zpa,zpb,zpc]
       refine par3_move (v:= ?_) 1 (by simp only[zga,zgb,zgc];rfl) (by kernel_rfl) (by rfl) ?_ (fun _ _ _ h=>h) ?_
       rotate_left
       ·(intro w9;go_simp;try with_reducible rfl)
       simp only[Act.put,zpa,zpb,zpc]
       refine par3_read8 (v:= ?_) 2 (by simp only[zga,zgb,zgc];rfl) (by kernel_rfl) (by rfl) HS0.out ?_ (fun _ _ _ h=>h) ?_
       rotate_left
       ·(intro w9 hSw;obtain⟨y0,y1,y2,y3,y4⟩:=(HY w9 hSw).out;clear hSw;go_simp;try with_reducible rfl)
       simp only[Act.put,zpa,zpb,zpc]
       refine par3_move (v:= ?_) 3 (by simp only[zga,zgb,zgc];rfl) (by kernel_rfl) (by rfl) ?_ (fun _ _ _ h=>h) ?_
       rotate_left
       ·(intro w9;go_simp;try with_reducible rfl)
       simp only[Act.put,zpa,zpb,zpc]
       refine par3_move (v:= ?_) 4 (by simp only[zga,zgb,zgc];rfl) (by kernel_rfl) (by rfl) ?_ (fun _ _ _ h=>h) ?_
       rotate_left
       ·(intro w9;go_simp;try with_reducible rfl)
       simp only[Act.put,zpa,zpb,zpc]
       refine par3_move (v:= ?_) 5 (by simp only[zga,zgb,zgc];rfl) (by kernel_rfl) (by rfl) ?_ (fun _ _ _ h=>h) ?_
       rotate_left
       ·(intro w9;go_simp;try with_reducible rfl)
       simp only[Act.put,zpa,zpb,zpc]
       refine par3_read8 (v:= ?_) 6 (by simp only[zga,zgb,zgc];rfl) (by kernel_rfl) (by rfl) HS0.out ?_ (fun _ _ _ h=>h) ?_
       rotate_left
       ·(intro w9 hSw;obtain⟨y0,y1,y2,y3,y4⟩:=(HY w9 hSw).out;clear hSw;go_simp;try with_reducible rfl)
       simp only[Act.put,zpa,zpb,zpc]
       refine par3_nm (fun W0 hW0=> ?_)
       rw[←hW0] at HS0
       clear hW0
       refine par3_one 7 (by simp only[zga,zgb,zgc];rfl) (by kernel_rfl) (by rfl) ?_
       refine owp_call (by go_simp;constructor<;>rfl) ?_
       refine(HDG _ HS0.out).out.mono ?_
       rintro z W7 ⟨⟨d,rfl,hd⟩,hb9⟩
       have HS7:=Lib.hid (below_next HS0.out HS0.out.size hb9)
       refine⟨_,rfl,fun s _=>HS7.out, ?_⟩
       clear hb9
       simp only[Act.put,zpa,zpb,zpc]
       obtain⟨db,hdb⟩: ∃db,db=degB p.es v.id:=⟨_,rfl⟩
       have HDB:=Lib.hid hdb.symm
       rw[←hdb] at hd
       clear hdb
       cases db
       ·refine par3_tail _ (by simp only[List.drop_succ_cons,List.drop_zero];rfl) (by kernel_rfl) ?_
        go_wp2_with fail
        refine NoPanic.normal ?_
        go_wp2_with fail
        go_roundw
        case rel=>exact⟨t+1,VA,by omega,by go_num,by rw[rmV_no HVK.out HDB.out];exact HI.out.below HS7.out⟩
        case measure=>simp[intOf];omega
       ·refine par3_tail _ (by simp only[List.drop_succ_cons,List.drop_zero];rfl) (by kernel_rfl) ?_
        go_wp2_with fail
        refine NoPanic.normal ?_
        have HIX:=idx_lt (p:=p) (pieceR p) v.at_ (-1)
        obtain⟨I,hIe⟩: ∃I:Nat,I=idxA p (pieceR p) (-1) v.at_:=⟨_,rfl⟩
        have HII:=Lib.hid hIe
        have HIE:=Lib.hid (show I<k+1∧(I:Int)=1+aroundP ((orsP p).map (ouOf (pieceR p))) v.at_ (-1) from by rw[hIe,HON.out];exact HIX)
        have hIN:=HIE.out.1
        have hIQ:=HIE.out.2
        have HLQ:=fun(W1:World) (hb:Below wv.heap.size wv W1)=>HLS W1 (HTQ W1 hb).out v.at_ HVR.out (-1)
        generalize aroundP ((orsP p).map (ouOf (pieceR p))) v.at_ (-1)=Q at HLQ hIQ
        obtain rfl:Q=(I:Int) - 1:=by omega
        have hwI:IntKind.i64.wrap (1+((I:Int) - 1))=(I:Int):=by rw[show 1+((I:Int) - 1)=I by omega];exact IntWalk.i64_in _ (by omega)
        clear hIe HIX hIQ hd
        have HB:=HBT _ (HTQ W7 HS7.out).out
        obtain⟨qx0,qx1⟩:=(HC _ HB.out).out
        have rx0:=(HZ _ HB.out.size).out
        go_upto_region 27 with fail
        refine wp_name (fun c10 hc10=> ?_)
        have HB:=Lib.hid (touch_name HB.out (by repeat (first|exact Below.refl _ _|refine below_alloc ?_)) hc10)
        have HXC:=Lib.hid (hc10▸HS7.out);have HLQL:=fun(x0:Later c10)=>HLQ x0.1 (below_step x0.2 HXC.out);have y7:=fun(x0:Later c10)=>(HYV x0.1 (below_step x0.2 HXC.out)).out.2.2
        clear hc10
        have xx:=fun(x:Later c10)=>(HC _ (touch_later HB.out x.2)).out
        simp only[forall_and] at xx
        obtain⟨xx0,xx1⟩:=xx
        refine wp_region_later (by kernel_rfl) (by kernel_rfl) ?_
        repeat (first|go_big_quiet_step ((go_at_call 35;with_reducible refine Later.call (HLQL _).out))|quiet_step ((go_at_call 35;with_reducible refine Later.call (HLQL _).out)))
        refine wpQuiet_nil ?_
        intro wt hw10
        have hb10:=later_below hw10
        clear hw10
        have HB:=Lib.hid (touch_later HB.out hb10)
        clear xx0 xx1
        clear qx0 qx1 rx0
        obtain⟨qx0,qx1⟩:=(HC _ HB.out).out
        have HBt:=Lib.hid (below_step hb10 HXC.out)
        clear hb10
        have rx0:=(HZ _ HB.out.size).out
        clear qx0 qx1 rx0
        have HZt:=Lib.hid (HI.out.below HBt.out)
        have HIN2:=Lib.hid (show I<(rmV p (pieceR p) (-1) t).length from by rw[rmV_len, ←HON.out];exact hIN)
        have hIN3:(I:Int)<(k:Int)+1:=by omega
        obtain⟨vA,hvA⟩: ∃v,v=VA I:=⟨_,rfl⟩
        have HVV:=Lib.hid hvA
        have HOI:=Lib.hid (show wt.ownsRow w2.heap.size 3 1 vA (rmAt (rmV p (pieceR p) (-1) t) I).alone.length _ from hvA▸HZt.out.rl.fa.own I)
        have HY:=fun(w':World) (t':Touch vA.ownBlock.toList wt w')=>Lib.hid (show w'.cell? ⟨gb,I*3+2,none⟩=some vA∧w'.cell? ⟨w.heap.size,0,none⟩=some (.slice (some ⟨vb,voff,none⟩) vn vc)∧w'.cell? ⟨vb,voff+t*3,none⟩=some (.int .i64 v.id)∧True∧True from by
         have row4:=HZt.out.rl.row
         have r1:=ownsRow_touch row4 t' (fun x hx=>by cases hx;exact fun hm=>own_apart row4 HOI.out (by decide) (g:=gb) rfl (Option.mem_toList.1 hm))
         have no: ∀q,q<w2.heap.size→q∉vA.ownBlock.toList:=fun q hq hm=>by have:=(HOI.out.lt q (Option.mem_toList.1 hm)).1;omega
         obtain⟨d0, -,d2, -⟩:=(HYV _ HBt.out).out
         have hs:=HZt.out.size
         have hg:=HGW.out
         exact⟨(addr_add0 gb (I*3+2))▸r1.cells (g:=gb) rfl (j:=I*3+2) (u:=vA) (flatMap_get (n:=3) (f:=fun i=>[hZ Ho i,VI i,VA i]) (fun _=>rfl) (List.range (rmV p (pieceR p) (-1) t).length) I 2 I vA (by rw[List.getElem?_range HIN2.out]) (by rw[HVV.out];rfl)),(t'.cell (p:=⟨w.heap.size,0,none⟩) (show w.heap.size<wt.heap.size by omega) (no w.heap.size (by omega))).trans d0,(t'.cell (p:=⟨vb,voff+t*3,none⟩) (show vb<wt.heap.size by omega) (no vb (by omega))).trans d2,trivial,trivial⟩)
        have HS0:=Lib.hid (Touch.refl vA.ownBlock.toList wt).drew
        have ID:=Lib.hid (HZt.out.below (Below.refl wt.heap.size wt).drew)
        have HSZ:=Lib.hid (show w2.heap.size≤wt.heap.size from HZt.out.size)
        clear hvA
        go_upto_region 28 with fail
        refine wp_region_noPanic ?_
        refine wp_region_par3 17 17 (by kernel_rfl) (by kernel_rfl) (by simp) (by omega) (by kernel_rfl) (by kernel_rfl) (fun w':World=>Touch vA.ownBlock.toList wt w') ?_
        refine par3_move (v:= ?_) 0 (by simp only[zga,zgb,zgc];rfl) (by kernel_rfl) (by rfl) ?_ (fun _ _ _ h=>h) ?_
        rotate_left
        ·(intro w9;go_simp;try with_reducible rfl)
        simp only[Act.put,zpa,zpb,zpc]
        refine par3_move (v:= ?_) 1 (by simp only[zga,zgb,zgc];rfl) (by kernel_rfl) (by rfl) ?_ (fun _ _ _ h=>h) ?_
        rotate_left
        ·(intro w9;go_simp;try with_reducible rfl)
        simp only[Act.put,zpa,zpb,zpc]
        refine par3_move (v:= ?_) 2 (by simp only[zga,zgb,zgc];rfl) (by kernel_rfl) (by rfl) ?_ (fun _ _ _ h=>h) ?_
        rotate_left
        ·(intro w9;go_simp;try with_reducible rfl)
        simp only[Act.put,zpa,zpb,zpc]
        refine par3_move (v:= ?_) 3 (by simp only[zga,zgb,zgc];rfl) (by kernel_rfl) (by rfl) ?_ (fun _ _ _ h=>h) ?_
        rotate_left
        ·(intro w9;go_simp;try with_reducible rfl)
        simp only[Act.put,zpa,zpb,zpc]
        refine par3_move (v:= ?_) 4 (by simp only[zga,zgb,zgc];rfl) (by kernel_rfl) (by rfl) ?_ (fun _ _ _ h=>h) ?_
        rotate_left
        ·(intro w9;go_simp;try with_reducible rfl)
        simp only[Act.put,zpa,zpb,zpc]
        refine par3_move (v:= ?_) 5 (by simp only[zga,zgb,zgc];rfl) (by kernel_rfl) (by rfl) ?_ (fun _ _ _ h=>h) ?_
        rotate_left
        ·(intro w9;go_simp;try with_reducible rfl)
        simp only[Act.put,zpa,zpb,zpc]
        refine par3_read8 (v:= ?_) 6 (by simp only[zga,zgb,zgc];rfl) (by kernel_rfl) (by rfl) HS0.out ?_ (fun _ _ _ h=>h) ?_
        rotate_left
        ·(intro w9 hSw;obtain⟨y0,y1,y2,y3,y4⟩:=(HY w9 hSw).out;clear hSw;go_simp;try with_reducible rfl)
        simp only[Act.put,zpa,zpb,zpc]
        refine par3_move (v:= ?_) 7 (by simp only[zga,zgb,zgc];rfl) (by kernel_rfl) (by rfl) ?_ (fun _ _ _ h=>h) ?_
        rotate_left
        ·(intro w9;go_simp;try with_reducible rfl)
        simp only[Act.put,zpa,zpb,zpc]
        refine par3_read8 (v:= ?_) 8 (by simp only[zga,zgb,zgc];rfl) (by kernel_rfl) (by rfl) HS0.out ?_ (fun _ _ _ h=>h) ?_
        rotate_left
        ·(intro w9 hSw;obtain⟨y0,y1,y2,y3,y4⟩:=(HY w9 hSw).out;clear hSw;go_simp;try with_reducible rfl)
        simp only[Act.put,zpa,zpb,zpc]
        refine par3_move (v:= ?_) 9 (by simp only[zga,zgb,zgc];rfl) (by kernel_rfl) (by rfl) ?_ (fun _ _ _ h=>h) ?_
        rotate_left
        ·(intro w9;go_simp;try with_reducible rfl)
        simp only[Act.put,zpa,zpb,zpc]
        refine par3_move (v:= ?_) 10 (by simp only[zga,zgb,zgc];rfl) (by kernel_rfl) (by rfl) ?_ (fun _ _ _ h=>h) ?_
        rotate_left
        ·(intro w9;go_simp;try with_reducible rfl)
        simp only[Act.put,zpa,zpb,zpc]
        refine par3_move (v:= ?_) 11 (by simp only[zga,zgb,zgc];rfl) (by kernel_rfl) (by rfl) ?_ (fun _ _ _ h=>h) ?_
        rotate_left
        ·(intro w9;go_simp;try with_reducible rfl)
        simp only[Act.put,zpa,zpb,zpc]
        refine par3_read8 (v:= ?_) 12 (by simp only[zga,zgb,zgc];rfl) (by kernel_rfl) (by rfl) HS0.out ?_ (fun _ _ _ h=>h) ?_
        rotate_left
        ·(intro w9 hSw;obtain⟨y0,y1,y2,y3,y4⟩:=(HY w9 hSw).out;clear hSw;go_simp;try with_reducible rfl)
        simp only[Act.put,zpa,zpb,zpc]
        refine par3_nm (fun W8 hW8=> ?_)
        rw[←hW8] at HS0 ID
        clear hW8
        have HOW9:=Lib.hid (show W8.ownsRow w2.heap.size 3 1 vA (rmAt (rmV p (pieceR p) (-1) t) I).alone.length ((rmAt (rmV p (pieceR p) (-1) t) I).alone.map (Value.int .i64)) from HVV.out▸ID.out.rl.fa.own I)
        have HAL:=Lib.hid (show(rmAt (rmV p (pieceR p) (-1) t) I).alone.length≤512 from Nat.le_trans (rmV_alone_len (p:=p) (pieceR p) (-1) t I) (by omega))
        refine par3_one 13 (by simp only[zga,zgb,zgc];rfl) (by kernel_rfl) (by rfl) ?_
        refine owp_val (v:= ?_) (w1:= ?_) ?_ ?_
        rotate_left 2
        ·(go_simp;constructor<;>rfl)
        refine⟨fun s _=>s.alloc _, ?_⟩
        simp only[Act.put,zpa,zpb,zpc]
        refine par3_one 14 (by simp only[zga,zgb,zgc];rfl) (by kernel_rfl) (by rfl) ?_
        refine owp_append_near rfl (.tmp 160) (.tmp 167) 35 rfl w2.heap.size 3 l0 (.int .i64 0) 1 8 Tryz.underlying35 hl hl0 hl1 hl2 rfl (by decide) vA (rmAt (rmV p (pieceR p) (-1) t) I).alone.length _ rfl (HOW9.out.alloc _) ⟨W8.heap.size,0,none⟩ 1 1 [.int .i64 v.id] rfl (by decide) rfl (cell_list_at _ [.int .i64 v.id] _ rfl) (by simp[Value.oneCell']) (by have:=HAL.out;unfold maxLen;omega) (by have:=HAL.out;omega) (by have h1:=HSZ.out;have h2:=HS0.out.size;simp;omega) ?_
        intro g10 cap10 w10 hown hgr hat
        have hb9:Below W8.heap.size W8 (W8.alloc (.cells #[.int .i64 v.id] 3)):=below_alloc (Below.refl _ _)
        have k9:=(Touch.of_below (F:=vA.ownBlock.toList) hb9).trans (Touch.of_grown hgr) (fun x hx=> .inl hx)
        have row9:=ownsRow_touch ID.out.rl.row k9 (fun x hx=>by cases hx;exact fun hm=>own_apart ID.out.rl.row HOW9.out (by decide) (g:=gb) rfl (Option.mem_toList.1 hm))
        have f9:=fun i=>own_fz row9 i
        have c9:w10.cell? ⟨gb,I*3+2,none⟩=some vA:=(addr_add0 gb (I*3+2))▸row9.cells (g:=gb) rfl (j:=I*3+2) (u:=vA) (flatMap_get (n:=3) (f:=fun i=>[hZ Ho i,VI i,VA i]) (fun _=>rfl) (List.range (rmV p (pieceR p) (-1) t).length) I 2 I vA (by rw[List.getElem?_range HIN2.out]) (by rw[HVV.out];rfl))
        have I9:=Lib.hid (ID.out.addA (id:=v.id) HIN2.out hb9 hown (HVV.out▸hgr) (HVV.out▸hat))
        refine⟨fun s _=>s.trans (Touch.of_grown hgr) (fun b hb=> .inl hb), ?_⟩
        clear hown hgr hat hb9 k9 row9
        simp only[Act.put,zpa,zpb,zpc]
        refine par3_move (v:= ?_) 15 (by simp only[zga,zgb,zgc];rfl) (by kernel_rfl) (by rfl) ?_ (fun _ _ _ h=>h) ?_
        rotate_left
        ·(intro w9;go_simp;try with_reducible rfl)
        simp only[Act.put,zpa,zpb,zpc]
        refine par3_move (v:= ?_) 16 (by simp only[zga,zgb,zgc];rfl) (by kernel_rfl) (by rfl) ?_ (fun _ _ _ h=>h) ?_
        rotate_left
        ·(intro w9;go_simp;try with_reducible rfl)
        simp only[Act.put,zpa,zpb,zpc]
        refine par3_tail _ (by simp only[List.drop_succ_cons,List.drop_zero];rfl) (by kernel_rfl) ?_
        go_wp2_with fail
        refine NoPanic.normal ?_
        go_wp2_with fail
        go_roundw
        case rel=>exact⟨t+1,_,by omega,by go_num,by rw[rmV_yes HVK.out HDB.out, ←HII.out];exact I9.out⟩
        case measure=>simp[intOf];omega
      ·obtain rfl:t=vn:=by omega
       have HP:=Lib.hid (show RlIn wv wv.heap.size (some ⟨gb,0,none⟩) (k+1) (realmsP p (pieceR p) (-1)) from by
        have h:=HI.out.rl
        have hl:=rmV_len (p:=p) (pieceR p) (-1) p.vs.length
        rw[HVL.out,rmV_done] at h
        rw[rmV_done, ←HON.out] at hl
        have h2:=h.in_ rfl HI.out.size
        rw[hl] at h2
        exact h2)
       go_wp2_with fail
       go_ret
       exact⟨⟨_,_,_,rfl,HP.out⟩,HX.out⟩
end Go.Proofs.YthopjhifepijiaaGreat
