/- Lemmas on the way to the statement. -/
import Derived.Test.YthopjhifepijiaaJ14
import Derived.Test.YthopjhifepijiaaJ16
import Derived.Test.YthopjhifepijiaaJ17
import Derived.Deep.CutBlock
set_option linter.unusedSimpArgs false
set_option linter.unusedVariables false
namespace Go.Proofs.Ythopjhifepijiaa
open Go.RowKit Go.Joins
theorem u64_rg18 (n:Int):0≤IntKind.u64.wrap n:=by
 simp only[IntKind.wrap,IntKind.bits,IntKind.signed]
 simp
 omega
theorem turn_idx18 (n:Int) {m:Nat} (h:0<m) (hm:m≤24): ∃i:Nat,i<m∧wrap64 ((IntKind.u64.wrap n).tmod (m:Int))=(i:Int):=by
 have h0:=u64_rg18 n
 generalize IntKind.u64.wrap n=u at*
 rw[Int.tmod_eq_emod_of_nonneg h0]
 have h1:=Int.emod_nonneg u (show(m:Int)≠0 by omega)
 have h2:=Int.emod_lt_of_pos u (show(0:Int)<m by omega)
 refine⟨(u % (m:Int)).toNat,by omega, ?_⟩
 rw[IntWalk.wrap64_in _ ⟨by omega,by omega⟩]
 omega
set_option maxRecDepth 100000 in
set_option maxHeartbeats 8000000 in
theorem auditTurns_walk {w:World} {B vn vc en ec:Nat} {va ea:Option Addr} {p:PL} {wh at_ z:Int} (hv:VsIn w B va vn p.vs) (he:EsIn w B ea en p.es) (hB:B≤w.heap.size) (hec:en≤ec) (hfit:FitPL p) (w0:0≤wh∧wh≤255) (a0:fitI at_) (t0:fitI z):
  Calls Try.prog 6 #[.agg #[.slice va vn vc, .slice ea en ec], .int .u8 wh, .int .i64 at_, .int .i64 z] w fun e w'=>e= .returned (.bool true)∧Below w.heap.size w w':=by
 by_cases h1:24<vn
 ·have h2:(24:Int)<(vn:Int):=by omega
  clear hv he hfit
  go_enter Try.func6,Try.ntmps6
  go_wp2_with fail
  first|refine wp_name (fun W hW=> ?_)|refine calls_name (fun W hW=> ?_)
  have HW:Hid (Below w.heap.size w W):=Lib.hid (by rw[←hW];repeat (first|exact Below.refl _ _|refine below_alloc ?_))
  have HWs:Hid (W.heap.size=w.heap.size+1):=Lib.hid (by rw[←hW];simp)
  have HBW:Hid (W.heap.size≤W.heap.size):=Lib.hid (by have:=HWs.out;omega)
  have HC:=fun(W1:World) (hb:Below (W.heap.size) W W1)=>Lib.hid (show W1.cell? ⟨w.heap.size,0,none⟩=some (.slice va vn vc)∧W1.cell? ⟨w.heap.size,1,none⟩=some (.slice ea en ec) from by have hs:=HWs.out;refine⟨?_, ?_⟩<;>(refine(hb.cell (by dsimp only;omega)).trans ?_;rw[←hW];clear hW;go_simp))
  have HB:=Lib.hid (Below.refl (W.heap.size) W)
  clear hW
  have HZ:=fun(W1:World) (hb:W.heap.size≤W1.heap.size)=>Lib.hid (show w.heap.size<W1.heap.size from by have:=HWs.out;omega)
  obtain⟨qx0,qx1⟩:=(HC _ HB.out).out
  have rx0:=(HZ _ HB.out.size).out
  refine(awake18_any _).mono ?_
  rintro e w1 ⟨rfl,hb2⟩
  have HB:=bnx HB HBW hb2
  clear qx0 qx1 rx0
  obtain⟨qx0,qx1⟩:=(HC _ HB.out).out
  clear hb2
  have rx0:=(HZ _ HB.out.size).out
  go_wp2_with fail
  refine(awake18_any _).mono ?_
  rintro e w3 ⟨rfl,hb3⟩
  have HB:=bnx HB HBW hb3
  clear qx0 qx1 rx0
  obtain⟨qx0,qx1⟩:=(HC _ HB.out).out
  clear hb3
  have rx0:=(HZ _ HB.out.size).out
  go_wp2_with fail
  go_ret
  exact⟨rfl,bfn HW HB⟩
 by_cases h3:24<en
 ·have h2: ¬(24:Int)<(vn:Int):=by omega
  have h4:(24:Int)<(en:Int):=by omega
  clear hv he hfit
  go_enter Try.func6,Try.ntmps6
  go_wp2_with fail
  first|refine wp_name (fun W hW=> ?_)|refine calls_name (fun W hW=> ?_)
  have HW:Hid (Below w.heap.size w W):=Lib.hid (by rw[←hW];repeat (first|exact Below.refl _ _|refine below_alloc ?_))
  have HWs:Hid (W.heap.size=w.heap.size+1):=Lib.hid (by rw[←hW];simp)
  have HBW:Hid (W.heap.size≤W.heap.size):=Lib.hid (by have:=HWs.out;omega)
  have HC:=fun(W1:World) (hb:Below (W.heap.size) W W1)=>Lib.hid (show W1.cell? ⟨w.heap.size,0,none⟩=some (.slice va vn vc)∧W1.cell? ⟨w.heap.size,1,none⟩=some (.slice ea en ec) from by have hs:=HWs.out;refine⟨?_, ?_⟩<;>(refine(hb.cell (by dsimp only;omega)).trans ?_;rw[←hW];clear hW;go_simp))
  have HB:=Lib.hid (Below.refl (W.heap.size) W)
  clear hW
  have HZ:=fun(W1:World) (hb:W.heap.size≤W1.heap.size)=>Lib.hid (show w.heap.size<W1.heap.size from by have:=HWs.out;omega)
  obtain⟨qx0,qx1⟩:=(HC _ HB.out).out
  have rx0:=(HZ _ HB.out.size).out
  refine(awake18_any _).mono ?_
  rintro e w1 ⟨rfl,hb6⟩
  have HB:=bnx HB HBW hb6
  clear qx0 qx1 rx0
  obtain⟨qx0,qx1⟩:=(HC _ HB.out).out
  clear hb6
  have rx0:=(HZ _ HB.out.size).out
  go_wp2_with fail
  refine(awake18_any _).mono ?_
  rintro e w7 ⟨rfl,hb7⟩
  have HB:=bnx HB HBW hb7
  clear qx0 qx1 rx0
  obtain⟨qx0,qx1⟩:=(HC _ HB.out).out
  clear hb7
  have rx0:=(HZ _ HB.out.size).out
  go_wp2_with fail
  go_ret
  exact⟨rfl,bfn HW HB⟩
 have h2: ¬(24:Int)<(vn:Int):=by omega
 have h4: ¬(24:Int)<(en:Int):=by omega
 have HRT:=fun(W:World) (hb:Below w.heap.size w W)=>Lib.hid (r15right_any (w:=W) (vc:=vc) (ec:=ec) (hv.below (hb.mono hB)) (he.below (hb.mono hB)) (Nat.le_trans hB hb.size) hec)
 rw[rightR_eq] at HRT
 cases hr:rightB p
 ·rw[hr] at HRT
  clear hv he hfit hr
  go_enter Try.func6,Try.ntmps6
  go_wp2_with fail
  first|refine wp_name (fun W hW=> ?_)|refine calls_name (fun W hW=> ?_)
  have HW:Hid (Below w.heap.size w W):=Lib.hid (by rw[←hW];repeat (first|exact Below.refl _ _|refine below_alloc ?_))
  have HWs:Hid (W.heap.size=w.heap.size+1):=Lib.hid (by rw[←hW];simp)
  have HBW:Hid (W.heap.size≤W.heap.size):=Lib.hid (by have:=HWs.out;omega)
  have HC:=fun(W1:World) (hb:Below (W.heap.size) W W1)=>Lib.hid (show W1.cell? ⟨w.heap.size,0,none⟩=some (.slice va vn vc)∧W1.cell? ⟨w.heap.size,1,none⟩=some (.slice ea en ec) from by have hs:=HWs.out;refine⟨?_, ?_⟩<;>(refine(hb.cell (by dsimp only;omega)).trans ?_;rw[←hW];clear hW;go_simp))
  have HB:=Lib.hid (Below.refl (W.heap.size) W)
  clear hW
  have HZ:=fun(W1:World) (hb:W.heap.size≤W1.heap.size)=>Lib.hid (show w.heap.size<W1.heap.size from by have:=HWs.out;omega)
  obtain⟨qx0,qx1⟩:=(HC _ HB.out).out
  have rx0:=(HZ _ HB.out.size).out
  refine(awake18_any _).mono ?_
  rintro e w1 ⟨rfl,hb10⟩
  have HB:=bnx HB HBW hb10
  clear qx0 qx1 rx0
  obtain⟨qx0,qx1⟩:=(HC _ HB.out).out
  clear hb10
  have rx0:=(HZ _ HB.out.size).out
  go_wp2_with fail
  refine((HRT _ (HW.out.trans (HB.out.mono HW.out.size))).out).mono ?_
  rintro e w11 ⟨rfl,hb11⟩
  have HB:=bnx HB HBW hb11
  clear qx0 qx1 rx0
  obtain⟨qx0,qx1⟩:=(HC _ HB.out).out
  clear hb11
  have rx0:=(HZ _ HB.out.size).out
  go_wp2_with fail
  refine(awake18_any _).mono ?_
  rintro e w12 ⟨rfl,hb12⟩
  have HB:=bnx HB HBW hb12
  clear qx0 qx1 rx0
  obtain⟨qx0,qx1⟩:=(HC _ HB.out).out
  clear hb12
  have rx0:=(HZ _ HB.out.size).out
  go_wp2_with fail
  go_ret
  exact⟨rfl,bfn HW HB⟩
 ·rw[hr] at HRT
  have R:=Lib.hid (rightB_iff.1 hr)
  have HDR:=fun(W:World) (hb:Below w.heap.size w W)=>Lib.hid (draw_any (w:=W) (vc:=vc) (ec:=ec) R.out (hv.below (hb.mono hB)) (he.below (hb.mono hB)) (Nat.le_trans hB hb.size) (by omega) (by omega) hec hfit)
  have HPE:=Lib.hid (show p.es.length≤24 from by have:=he.1;omega)
  have HPV:=Lib.hid (show p.vs.length≤24 from by have:=hv.1;omega)
  clear hv he hfit hr
  go_enter Try.func6,Try.ntmps6
  go_wp2_with fail
  first|refine wp_name (fun W hW=> ?_)|refine calls_name (fun W hW=> ?_)
  have HW:Hid (Below w.heap.size w W):=Lib.hid (by rw[←hW];repeat (first|exact Below.refl _ _|refine below_alloc ?_))
  have HWs:Hid (W.heap.size=w.heap.size+1):=Lib.hid (by rw[←hW];simp)
  have HBW:Hid (W.heap.size≤W.heap.size):=Lib.hid (by have:=HWs.out;omega)
  have HC:=fun(W1:World) (hb:Below (W.heap.size) W W1)=>Lib.hid (show W1.cell? ⟨w.heap.size,0,none⟩=some (.slice va vn vc)∧W1.cell? ⟨w.heap.size,1,none⟩=some (.slice ea en ec) from by have hs:=HWs.out;refine⟨?_, ?_⟩<;>(refine(hb.cell (by dsimp only;omega)).trans ?_;rw[←hW];clear hW;go_simp))
  have HB:=Lib.hid (Below.refl (W.heap.size) W)
  clear hW
  have HZ:=fun(W1:World) (hb:W.heap.size≤W1.heap.size)=>Lib.hid (show w.heap.size<W1.heap.size from by have:=HWs.out;omega)
  obtain⟨qx0,qx1⟩:=(HC _ HB.out).out
  have rx0:=(HZ _ HB.out.size).out
  refine(awake18_any _).mono ?_
  rintro e w1 ⟨rfl,hb15⟩
  have HB:=bnx HB HBW hb15
  clear qx0 qx1 rx0
  obtain⟨qx0,qx1⟩:=(HC _ HB.out).out
  clear hb15
  have rx0:=(HZ _ HB.out.size).out
  go_wp2_with fail
  refine((HRT _ (HW.out.trans (HB.out.mono HW.out.size))).out).mono ?_
  rintro e w16 ⟨rfl,hb16⟩
  have HB:=bnx HB HBW hb16
  clear qx0 qx1 rx0
  obtain⟨qx0,qx1⟩:=(HC _ HB.out).out
  clear hb16
  have rx0:=(HZ _ HB.out.size).out
  go_wp2_with fail
  have HX2:=Lib.hid (HW.out.trans (HB.out.mono HW.out.size))
  refine((HDR _ (HW.out.trans (HB.out.mono HW.out.size))).out).mono ?_
  rintro e wd ⟨⟨lv,le,lf,k,V,E,F,rfl,hk⟩,hb17⟩
  have HB:=bnx HB HBW hb17
  clear qx0 qx1 rx0
  obtain⟨qx0,qx1⟩:=(HC _ HB.out).out
  clear hb17
  have rx0:=(HZ _ HB.out.size).out
  have HXD:=Lib.hid (HW.out.trans (HB.out.mono HW.out.size))
  rcases hk with ⟨rfl,rfl,rfl,rfl⟩|⟨rfl,f1,f2,f3,lo,vs,es,fs,hlo,hd⟩
  ·skip
   go_wp2_with fail
   go_ret
   exact⟨rfl,HXD.out.alloc HXD.out.size _⟩
  ·skip
   obtain⟨a1,d1,rfl⟩:=own_form hd.rv
   obtain⟨a2,d2,rfl⟩:=own_form hd.re
   obtain⟨a3,d3,rfl⟩:=own_form hd.rf
   have hbd:wd.heap.size≤wd.heap.size:=Nat.le_refl _
   have HD:=Lib.hid hd
   have HLO:=Lib.hid hlo
   have HF1:=Lib.hid f1
   have HF2:=Lib.hid f2
   have HL5:=Lib.hid f3
   obtain⟨nv,hnv⟩: ∃m,m=vs.length:=⟨_,rfl⟩
   obtain⟨ne,hne⟩: ∃m,m=es.length:=⟨_,rfl⟩
   obtain⟨nf,hnf⟩: ∃m,m=fs.length:=⟨_,rfl⟩
   have HTW:=Lib.hid hd.tw
   have HNL:=Lib.hid (show nv=vs.length∧ne=es.length∧nf=fs.length from⟨hnv,hne,hnf⟩)
   have n1:nv≤24:=by
    have h1:(pOf vs es).vs.length=p.vs.length:=by rw[hd.pl]
    unfold pOf at h1;simp at h1;have:=HPV.out;omega
   have n2:ne≤24:=by
    have h1:(pOf vs es).es.length=p.es.length:=by rw[hd.pl]
    unfold pOf at h1;simp at h1;have:=HPE.out;omega
   have n3:nf≤500:=by have:=parts_few18 R.out HPE.out;have:=hd.nf;omega
   rw[←hnv, ←hne, ←hnf] at HTW ⊢
   clear hd hlo f1 f2 f3 hnv hnf
   by_cases hz:ne=0
   ·skip
    have hz2:((ne:Int)==0)=true:=by simp[hz]
    clear hz hne
    go_wp2_with fail
    go_ret
    exact⟨rfl,HXD.out.alloc HXD.out.size _⟩
   ·skip
    have hz2:((ne:Int)==0)=false:=by simp;omega
    obtain⟨g,cap,hg⟩:=ownsRow_form HTW.out.re (by have:=HNL.out;omega)
    injection hg with e1 e2 e3
    subst e1
    have HG:=Lib.hid (HTW.out.re.lt g rfl)
    obtain⟨i,hi,hix⟩:=turn_idx18 at_ (Nat.pos_of_ne_zero hz) n2
    have hin:i<es.length:=by have:=HNL.out;omega
    obtain⟨x,hx⟩: ∃x,es[i]? =some x:=⟨_,List.getElem?_eq_getElem hin⟩
    have HXI:=Lib.hid hx
    obtain⟨kk,hkk⟩: ∃kk,wh / 8 % 2=kk:=⟨_,rfl⟩
    have hk2:kk=0∨kk=1:=by omega
    obtain⟨rr,hrr⟩: ∃rr,wh % 8=rr:=⟨_,rfl⟩
    have hr8:rr=0∨rr=1∨rr=2∨rr=3∨rr=4∨rr=5∨rr=6∨rr=7:=by omega
    have HK2:=Lib.hid hk2
    have HR8:=Lib.hid hr8
    clear hz hne e2 e3 hin hx hk2 hr8
    go_upto_region 9 with fail
    simp only[hix,hkk]
    clear hix hkk
    refine wp_name (fun W3 hW3=> ?_)
    have HT3:=Lib.hid (show TW W3 lo (.slice a1 nv d1) (.slice (some ⟨g,0,none⟩) ne d2) (.slice a3 nf d3) vs es fs∧W3.rowIs wd.heap.size 73 6 (tdF lv le lf (.slice a1 nv d1) (.slice (some ⟨g,0,none⟩) ne d2) (.slice a3 nf d3))∧Below w.heap.size w W3∧W3.heap.size=wd.heap.size+1 from by
     rw[←hW3]
     refine⟨HTW.out.below (below_alloc (Below.refl _ _)),World.rowIs.congr (World.rowIs_alloc wd #[.int .i64 lv, .int .i64 le, .int .i64 lf, .slice a1 nv d1, .slice (some ⟨g,0,none⟩) ne d2, .slice a3 nf d3] 73 (tdF lv le lf (.slice a1 nv d1) (.slice (some ⟨g,0,none⟩) ne d2) (.slice a3 nf d3)) (fun j hj=> ?_)) (fun _ _=>rfl),HXD.out.alloc HXD.out.size _,by simp⟩
     rcases j with _|_|_|_|_|_|j<;>first|rfl|(simp at hj;omega))
    clear hW3
    obtain⟨x0,x1,x2,x3,x4,x5,x6,x7,x8,x9,x10,x11,x12⟩:=HT3.out.1.cells HNL.out.2.1 HXI.out
    have hg3:g<W3.heap.size:=by have:=HG.out;have:=HT3.out.2.2.2;omega
    go_upto_region 10 with fail
    refine wp_name (fun W4 hW4=> ?_)
    have HT4:=Lib.hid (show TurnAt w W4 lo wd.heap.size W3.heap.size lv le lf (.slice a1 nv d1) (.slice (some ⟨g,0,none⟩) ne d2) (.slice a3 nf d3) vs es fs x from by
     rw[←hW4]
     refine⟨HT3.out.1.below (below_alloc (Below.refl _ _)),World.rowIs.alloc HT3.out.2.1 _,World.rowIs.congr (World.rowIs_alloc W3 (erC x).toArray 81 (erF x) (fun j hj=> ?_)) (fun _ _=>rfl),HT3.out.2.2.1.alloc HT3.out.2.2.1.size _⟩
     rcases j with _|_|_|_|_|_|_|_|_|_|_|_|_|j<;>first|rfl|(simp[erC] at hj;omega))
    have HGN:=Lib.hid (show g≠wd.heap.size∧g≠W3.heap.size∧w.heap.size≤g from by
     have h1:=HG.out
     have h2:=HLO.out
     have h4:=HX2.out.size
     have h3:=HT3.out.2.2.2
     omega)
    clear hW4 x0 x1 x2 x3 x4 x5 x6 x7 x8 x9 x10 x11 x12
    have z4:W3.heap.size<W4.heap.size:=World.rowIs.lt HT4.out.wb
    have z3:wd.heap.size<W4.heap.size:=World.rowIs.lt HT4.out.tb
    have hgl:g<W4.heap.size:=by have:=HG.out;omega
    have hfz:=HT4.out.tw.frozen HNL.out.2.1
    clear hg3
    go_upto_block 0 with fail
    rw[hrr]
    go_cut [15] (fun v15 wx=> ∃x',TurnK x x'∧TurnAt w wx lo wd.heap.size W3.heap.size lv le lf (.slice a1 nv d1) (.slice (some ⟨g,0,none⟩) ne d2) (.slice a3 nf d3) vs (es.set i x') fs x)
    case first=>
     rcases HR8.out with rfl|rfl|rfl|rfl|rfl|rfl|rfl|rfl
     ·skip
      rcases HK2.out with rfl|rfl
      ·obtain⟨x0,x1,x2,x3,x4,x5,x6,x7,x8,x9,x10,x11,x12⟩:=HT4.out.tw.cells HNL.out.2.1 HXI.out
       go_wp2_with fail
       go_meet
       exact⟨({ x with n0:=z }),(.inl ⟨rfl,rfl,rfl⟩),HT4.out.put HNL.out.2.1 HXI.out HGN.out (j:=3) (by decide) rfl⟩
      ·obtain⟨x0,x1,x2,x3,x4,x5,x6,x7,x8,x9,x10,x11,x12⟩:=HT4.out.tw.cells HNL.out.2.1 HXI.out
       go_wp2_with fail
       go_meet
       exact⟨({ x with n1:=z }),(.inl ⟨rfl,rfl,rfl⟩),HT4.out.put HNL.out.2.1 HXI.out HGN.out (j:=5) (by decide) rfl⟩
     ·skip
      rcases HK2.out with rfl|rfl
      ·obtain⟨x0,x1,x2,x3,x4,x5,x6,x7,x8,x9,x10,x11,x12⟩:=HT4.out.tw.cells HNL.out.2.1 HXI.out
       go_wp2_with fail
       go_meet
       exact⟨({ x with p0:=z }),(.inl ⟨rfl,rfl,rfl⟩),HT4.out.put HNL.out.2.1 HXI.out HGN.out (j:=7) (by decide) rfl⟩
      ·obtain⟨x0,x1,x2,x3,x4,x5,x6,x7,x8,x9,x10,x11,x12⟩:=HT4.out.tw.cells HNL.out.2.1 HXI.out
       go_wp2_with fail
       go_meet
       exact⟨({ x with p1:=z }),(.inl ⟨rfl,rfl,rfl⟩),HT4.out.put HNL.out.2.1 HXI.out HGN.out (j:=9) (by decide) rfl⟩
     ·skip
      rcases HK2.out with rfl|rfl
      ·obtain⟨x0,x1,x2,x3,x4,x5,x6,x7,x8,x9,x10,x11,x12⟩:=HT4.out.tw.cells HNL.out.2.1 HXI.out
       have yy:=fun(y:Later W4)=>(y.cell (b:=g) (o:=i*13+4) hgl).trans x4
       clear x0 x1 x2 x3 x4 x5 x6 x7 x8 x9 x10 x11 x12
       go_upto_region 16 with fail
       refine wp_region_later_tail 14 (by kernel_rfl) (by kernel_rfl) ?_
       simp only[List.take_succ_cons,List.take_zero,List.drop_succ_cons,List.drop_zero]
       repeat (first|go_big_quiet_step ((fail))|quiet_step ((fail)))
       refine wpQuiet_nil ?_
       rintro w9 ⟨y9,hw9⟩
       have HT9:=Lib.hid (HT4.out.below (show Below W4.heap.size W4 w9 by rw[hw9];exact y9.2))
       have hgl9:g<w9.heap.size:=Nat.lt_of_lt_of_le hgl (by rw[hw9];exact y9.2.size)
       have hfz9:=HT9.out.tw.frozen HNL.out.2.1
       obtain⟨x0,x1,x2,x3,x4,x5,x6,x7,x8,x9,x10,x11,x12⟩:=HT9.out.tw.cells HNL.out.2.1 HXI.out
       clear hw9 y9 yy hfz hgl
       go_wp2_with fail
       go_meet
       exact⟨({ x with m0:= !x.m0 }), .inl ⟨rfl,rfl,rfl⟩,HT9.out.put HNL.out.2.1 HXI.out HGN.out (j:=4) (by decide) rfl⟩
      ·obtain⟨x0,x1,x2,x3,x4,x5,x6,x7,x8,x9,x10,x11,x12⟩:=HT4.out.tw.cells HNL.out.2.1 HXI.out
       have yy:=fun(y:Later W4)=>(y.cell (b:=g) (o:=i*13+6) hgl).trans x6
       clear x0 x1 x2 x3 x4 x5 x6 x7 x8 x9 x10 x11 x12
       go_upto_region 16 with fail
       refine wp_region_later_tail 14 (by kernel_rfl) (by kernel_rfl) ?_
       simp only[List.take_succ_cons,List.take_zero,List.drop_succ_cons,List.drop_zero]
       repeat (first|go_big_quiet_step ((fail))|quiet_step ((fail)))
       refine wpQuiet_nil ?_
       rintro w9 ⟨y9,hw9⟩
       have HT9:=Lib.hid (HT4.out.below (show Below W4.heap.size W4 w9 by rw[hw9];exact y9.2))
       have hgl9:g<w9.heap.size:=Nat.lt_of_lt_of_le hgl (by rw[hw9];exact y9.2.size)
       have hfz9:=HT9.out.tw.frozen HNL.out.2.1
       obtain⟨x0,x1,x2,x3,x4,x5,x6,x7,x8,x9,x10,x11,x12⟩:=HT9.out.tw.cells HNL.out.2.1 HXI.out
       clear hw9 y9 yy hfz hgl
       go_wp2_with fail
       go_meet
       exact⟨({ x with m1:= !x.m1 }), .inl ⟨rfl,rfl,rfl⟩,HT9.out.put HNL.out.2.1 HXI.out HGN.out (j:=6) (by decide) rfl⟩
     ·skip
      rcases HK2.out with rfl|rfl
      ·obtain⟨x0,x1,x2,x3,x4,x5,x6,x7,x8,x9,x10,x11,x12⟩:=HT4.out.tw.cells HNL.out.2.1 HXI.out
       have yy:=fun(y:Later W4)=>(y.cell (b:=g) (o:=i*13+8) hgl).trans x8
       clear x0 x1 x2 x3 x4 x5 x6 x7 x8 x9 x10 x11 x12
       go_upto_region 18 with fail
       refine wp_region_later_tail 14 (by kernel_rfl) (by kernel_rfl) ?_
       simp only[List.take_succ_cons,List.take_zero,List.drop_succ_cons,List.drop_zero]
       repeat (first|go_big_quiet_step ((fail))|quiet_step ((fail)))
       refine wpQuiet_nil ?_
       rintro w9 ⟨y9,hw9⟩
       have HT9:=Lib.hid (HT4.out.below (show Below W4.heap.size W4 w9 by rw[hw9];exact y9.2))
       have hgl9:g<w9.heap.size:=Nat.lt_of_lt_of_le hgl (by rw[hw9];exact y9.2.size)
       have hfz9:=HT9.out.tw.frozen HNL.out.2.1
       obtain⟨x0,x1,x2,x3,x4,x5,x6,x7,x8,x9,x10,x11,x12⟩:=HT9.out.tw.cells HNL.out.2.1 HXI.out
       clear hw9 y9 yy hfz hgl
       go_wp2_with fail
       go_meet
       exact⟨({ x with q0:= !x.q0 }), .inl ⟨rfl,rfl,rfl⟩,HT9.out.put HNL.out.2.1 HXI.out HGN.out (j:=8) (by decide) rfl⟩
      ·obtain⟨x0,x1,x2,x3,x4,x5,x6,x7,x8,x9,x10,x11,x12⟩:=HT4.out.tw.cells HNL.out.2.1 HXI.out
       have yy:=fun(y:Later W4)=>(y.cell (b:=g) (o:=i*13+10) hgl).trans x10
       clear x0 x1 x2 x3 x4 x5 x6 x7 x8 x9 x10 x11 x12
       go_upto_region 18 with fail
       refine wp_region_later_tail 14 (by kernel_rfl) (by kernel_rfl) ?_
       simp only[List.take_succ_cons,List.take_zero,List.drop_succ_cons,List.drop_zero]
       repeat (first|go_big_quiet_step ((fail))|quiet_step ((fail)))
       refine wpQuiet_nil ?_
       rintro w9 ⟨y9,hw9⟩
       have HT9:=Lib.hid (HT4.out.below (show Below W4.heap.size W4 w9 by rw[hw9];exact y9.2))
       have hgl9:g<w9.heap.size:=Nat.lt_of_lt_of_le hgl (by rw[hw9];exact y9.2.size)
       have hfz9:=HT9.out.tw.frozen HNL.out.2.1
       obtain⟨x0,x1,x2,x3,x4,x5,x6,x7,x8,x9,x10,x11,x12⟩:=HT9.out.tw.cells HNL.out.2.1 HXI.out
       clear hw9 y9 yy hfz hgl
       go_wp2_with fail
       go_meet
       exact⟨({ x with q1:= !x.q1 }), .inl ⟨rfl,rfl,rfl⟩,HT9.out.put HNL.out.2.1 HXI.out HGN.out (j:=10) (by decide) rfl⟩
     ·skip
      rcases HK2.out with rfl|rfl
      ·obtain⟨x0,x1,x2,x3,x4,x5,x6,x7,x8,x9,x10,x11,x12⟩:=HT4.out.tw.cells HNL.out.2.1 HXI.out
       go_wp2_with fail
       go_meet
       exact⟨({ x with f0:=z }),(.inr (.inl ⟨z,t0, .inl rfl⟩)),HT4.out.put HNL.out.2.1 HXI.out HGN.out (j:=11) (by decide) rfl⟩
      ·obtain⟨x0,x1,x2,x3,x4,x5,x6,x7,x8,x9,x10,x11,x12⟩:=HT4.out.tw.cells HNL.out.2.1 HXI.out
       go_wp2_with fail
       go_meet
       exact⟨({ x with f1:=z }),(.inr (.inl ⟨z,t0, .inr rfl⟩)),HT4.out.put HNL.out.2.1 HXI.out HGN.out (j:=12) (by decide) rfl⟩
     ·skip
      obtain⟨x0,x1,x2,x3,x4,x5,x6,x7,x8,x9,x10,x11,x12⟩:=HT4.out.tw.cells HNL.out.2.1 HXI.out
      go_wp2_with fail
      go_meet
      exact⟨({ x with a:=x.b }),(.inr (.inr (.inl rfl))),HT4.out.put HNL.out.2.1 HXI.out HGN.out (j:=1) (by decide) rfl⟩
     ·skip
      obtain⟨x0,x1,x2,x3,x4,x5,x6,x7,x8,x9,x10,x11,x12⟩:=HT4.out.tw.cells HNL.out.2.1 HXI.out
      go_wp2_with fail
      go_meet
      exact⟨({ x with id:=0 }),(.inr (.inr (.inr rfl))),HT4.out.put HNL.out.2.1 HXI.out HGN.out (j:=0) (by decide) rfl⟩
     ·skip
      obtain⟨i0,hi0,hz0,hz1,hz2⟩:=info_parts Try.infoFa
      have o0:W4.cell? ⟨wd.heap.size,0,none⟩=some (.int .i64 lv):=World.rowIs.cell HT4.out.tb (i:=0) (by decide)
      have o2:W4.cell? ⟨wd.heap.size,2,none⟩=some (.int .i64 lf):=World.rowIs.cell HT4.out.tb (i:=2) (by decide)
      have o5:W4.cell? ⟨wd.heap.size,5,none⟩=some (.slice a3 nf d3):=World.rowIs.cell HT4.out.tb (i:=5) (by decide)
      have ofz:=fun j=>World.rowIs.frozen HT4.out.tb j
      have hl1:wrap64 (lf+1)=lf+1:=IntWalk.wrap64_in _ (by have:=HL5.out;omega)
      have HOF:=Lib.hid (show W4.ownsRow lo 83 2 (.slice a3 nf d3) nf (fs.flatMap frC) from by have h:=HT4.out.tw.rf;rwa [←HNL.out.2.2] at h)
      go_wp2_with (at_builtin;go_loud (refine wpList_append_near _ rfl (.tmp 154) (.tmp 159) 71 rfl lo 83 i0 (.agg #[.int .i64 0, .int .i64 0]) 2 16 Try.underlying71 hi0 hz0 hz1 hz2 rfl (by decide) (.slice a3 nf d3) nf (fs.flatMap frC) rfl (HOF.out.alloc _) ⟨W4.heap.size,0,none⟩ 1 1 [.int .i64 (lf+1), .int .i64 0] rfl (by decide) rfl (cell_list_at _ [.int .i64 (lf+1), .int .i64 0] _ rfl) (by simp[Value.oneCell']) (by unfold maxLen;omega) (by omega) (by have:=HG.out;simp;omega) ?_))
      intro g8 cap8 w8 hown hgr hat8
      have hown':w8.ownsRow lo 83 2 (.slice (some ⟨g8,0,none⟩) (nf+1) cap8) (fs.length+1) (fs.flatMap frC++frC ⟨lf+1,0⟩):=by rw[←HNL.out.2.2];exact hown
      obtain⟨tb8,hfin⟩:=HT4.out.face ⟨Nat.le_trans HX2.out.size HLO.out,HXD.out.size⟩ (below_alloc (Below.refl _ _)) hown' hgr
      have HFN:=Lib.hid (hfin (lf+1))
      have f8:=fun j=>World.rowIs.frozen tb8 j
      have v2:w8.cell? ⟨wd.heap.size,2,none⟩=some (.int .i64 lf):=World.rowIs.cell tb8 (i:=2) (by decide)
      have v5:w8.cell? ⟨wd.heap.size,5,none⟩=some (.slice a3 nf d3):=World.rowIs.cell tb8 (i:=5) (by decide)
      have l8:=World.rowIs.lt tb8
      clear hown hown' hgr hat8 tb8 hfin o0 o2 o5 ofz HOF
      go_upto_region 28 with fail
      generalize (w8.setCell ⟨wd.heap.size,5,none⟩ (.slice (some ⟨g8,0,none⟩) (nf+1) cap8)).setCell ⟨wd.heap.size,2,none⟩ (.int .i64 (lf+1))=w9 at HFN ⊢
      clear f8 v2 v5 l8
      have o0:w9.cell? ⟨wd.heap.size,0,none⟩=some (.int .i64 lv):=World.rowIs.cell HFN.out.2.1 (i:=0) (by decide)
      have o1:w9.cell? ⟨wd.heap.size,1,none⟩=some (.int .i64 le):=World.rowIs.cell HFN.out.2.1 (i:=1) (by decide)
      have o2:w9.cell? ⟨wd.heap.size,2,none⟩=some (.int .i64 (lf+1)):=World.rowIs.cell HFN.out.2.1 (i:=2) (by decide)
      have o3:w9.cell? ⟨wd.heap.size,3,none⟩=some (.slice a1 nv d1):=World.rowIs.cell HFN.out.2.1 (i:=3) (by decide)
      have o4:w9.cell? ⟨wd.heap.size,4,none⟩=some (.slice (some ⟨g,0,none⟩) ne d2):=World.rowIs.cell HFN.out.2.1 (i:=4) (by decide)
      have o5:w9.cell? ⟨wd.heap.size,5,none⟩=some (.slice (some ⟨g8,0,none⟩) (nf+1) cap8):=World.rowIs.cell HFN.out.2.1 (i:=5) (by decide)
      go_wp2_with fail
      refine(HFN.out.1.check ⟨HNL.out.1,HNL.out.2.1,by rw[List.length_append, ←HNL.out.2.2];rfl⟩ (by omega) (by omega) (by omega) (HD.out.fit.more (by have:=HL5.out;exact⟨by show(-9223372036854775808:Int)≤lf+1;omega,by show lf+1≤(9223372036854775807:Int);omega⟩)) (fun s=> ?_) lv le (lf+1) HF1.out HF2.out (by have:=HL5.out;exact⟨by omega,by omega⟩)).mono ?_
      ·have h1:=s.num
       have h2:=HD.out.nf
       rw[HD.out.pl,List.length_append] at h1
       simp at h1
       omega
      rintro e w10 ⟨rfl,hb10⟩
      have HB10:=Lib.hid (below_step hb10 HFN.out.2.2)
      clear hb10 o0 o1 o2 o3 o4 o5
      go_wp2_with fail
      go_ret
      exact⟨rfl,HB10.out⟩
    case rest=>
    obtain⟨x',hk,ht⟩:=hcut
    obtain⟨wy,rfl⟩: ∃q:World,q=wc:=⟨_,rfl⟩
    have HTY:=Lib.hid ht
    have HTK:=Lib.hid hk
    have HXI':=Lib.hid (show(es.set i x')[i]? =some x' from by rw[List.getElem?_set_self (List.getElem?_eq_some_iff.1 HXI.out).1])
    have HNY:=Lib.hid (show nv=vs.length∧ne=(es.set i x').length∧nf=fs.length from⟨HNL.out.1,by rw[List.length_set];exact HNL.out.2.1,HNL.out.2.2⟩)
    clear hk ht hgl hfz z3 z4
    have XC:=fun(y:Later wy)=>(HTY.out.below y.2).tw.cells HNY.out.2.1 HXI'.out
    simp only[forall_and] at XC
    obtain⟨x0,x1,x2,x3,x4,x5,x6,x7,x8,x9,x10,x11,x12⟩:=XC
    have EC:=fun(y:Later wy)=>(HTY.out.below y.2).old
    simp only[forall_and] at EC
    obtain⟨e0,e1,e2,e3,e4,e5,e6,e7,e8,e9,e10,e11,e12⟩:=EC
    have heq:=fun W=>equal_erow W x' x
    by_cases hxx:x'=x
    ·have hb:erB x' x=true:=erB_iff.2 hxx
     simp only[hb] at heq
     clear hb hxx
     go_upto_region 29 with fail
     refine wp_region_later (by kernel_rfl) (by kernel_rfl) ?_
     repeat (first|go_big_quiet_step ((fail))|quiet_step ((fail)))
     refine wpQuiet_nil ?_
     intro w9 hw9
     have HB9:=Lib.hid (below_step (later_below hw9) HTY.out.b)
     clear hw9 x0 x1 x2 x3 x4 x5 x6 x7 x8 x9 x10 x11 x12 e0 e1 e2 e3 e4 e5 e6 e7 e8 e9 e10 e11 e12 heq
     go_wp2_with fail
     go_ret
     exact⟨rfl,HB9.out⟩
    ·have hb:erB x' x=false:=by rw[Bool.eq_false_iff,ne_eq,erB_iff];exact hxx
     simp only[hb] at heq
     have r':=R.out
     have l':=HD.out.ln
     have f':=HD.out.fc
     rw[←HD.out.pl] at r' l' f'
     have HBAD:=Lib.hid (turned_bad (fs:=fs) r' l' f' HXI.out HTK.out hxx)
     have HCK:=fun(y:Later wy)=>Lib.hid ((HTY.out.below y.2).tw.check HNY.out (by omega) (by omega) (by omega) (turned_fit HD.out.fit HXI.out HTK.out) HBAD.out lv le lf HF1.out HF2.out (by have:=HL5.out;exact⟨by omega,by omega⟩))
     have TC:=fun(y:Later wy)=>(HTY.out.below y.2).tab
     simp only[forall_and] at TC
     obtain⟨o0,o1,o2,o3,o4,o5⟩:=TC
     clear hb hxx r' l' f'
     go_upto_region 29 with fail
     refine wp_region_later (by kernel_rfl) (by kernel_rfl) ?_
     repeat (first|go_big_quiet_step ((go_at_call 30;with_reducible refine Later.call (HCK _).out))|quiet_step ((go_at_call 30;with_reducible refine Later.call (HCK _).out)))
     refine wpQuiet_nil ?_
     intro w9 hw9
     have HB9:=Lib.hid (below_step (later_below hw9) HTY.out.b)
     clear hw9 x0 x1 x2 x3 x4 x5 x6 x7 x8 x9 x10 x11 x12 e0 e1 e2 e3 e4 e5 e6 e7 e8 e9 e10 e11 e12 heq o0 o1 o2 o3 o4 o5 HCK
     go_wp2_with fail
     go_ret
     exact⟨rfl,HB9.out⟩
end Go.Proofs.Ythopjhifepijiaa
