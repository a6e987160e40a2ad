/- Lemmas on the way to the statement. -/
import Derived.Test.YthopjhifepijiaaJ7
import Derived.Laws.StructEq
set_option linter.unusedSimpArgs false
set_option linter.unusedVariables false
namespace Go.Proofs.Ythopjhifepijiaa
open Go.RowKit Go.Joins
open Go.Maps (Keyed)
def lenV:Value→Nat
 | .slice _ n _=>n
 |_=>0
theorem Try.infoHs:(Try.prog.info? 33).map (fun i=>(i.zero,i.size,i.bytes))=some (some (.slice none 0 0),1,24):=by kernel_rfl
abbrev bV (b:Bool):Value:= .bool b
structure RgW (V wr:World) (p:PL) (mm k:Nat) (v:Value) (L:List (List Hf)) (M:List Hf):Prop where
 ri:RiS 33 V.heap.size wr v L
 st:RngS p k L M
 mt:MapT wr Try.prog 45 mm M.length ekH bV (mtM M)
 tch:Touch [mm] V wr
structure OrW (Vs wr:World) (p:PL) (mm:Nat) (M:List Hf) (h0:Hf) (R:List Hf) (h:Hf) (v:Value) (b:Nat):Prop where
 st:OrbS p M h0 R h
 own:wr.ownsRow Vs.heap.size 45 2 v R.length (hfC R)
 bx:wr.rowIs b 45 2 (hbF h.edge h.back)
 lo:Vs.heap.size≤b
 ne:v.ownBlock≠some b
 mt:MapT wr Try.prog 45 mm (M++R).length ekH bV (mtM (M++R))
 tch:Touch [mm] Vs wr
set_option maxRecDepth 100000 in
set_option maxHeartbeats 8000000 in
theorem spinRings_any {w:World} {B vn vc en ec:Nat} {va ea:Option Addr} {p:PL} (r:RightP p) (hv:VsIn w B va vn p.vs) (he:EsIn w B ea en p.es) (hB:B≤w.heap.size) (hec:en≤ec) (hfit:FitPL p):
  Calls Try.prog 19 #[.agg #[.slice va vn vc, .slice ea en ec]] w fun e w'=> ∃a c,e= .returned (.slice a (ringsP p).length c)∧RgOut w.heap.size w' a (ringsP p)∧Below w.heap.size w w':=by
 have HVI:=Lib.hid hv
 have HE:=Lib.hid he
 have HF:=Lib.hid hfit
 have HR:=Lib.hid r
 have hmm:= @run_makeMap Try.prog
 have hn1:vn≤512:=by have:=r.nv;have:=hv.1;omega
 have hn2:en≤1024:=by have:=r.ne;have:=he.1;omega
 obtain⟨i0,hi,hz0,hz1,hz2⟩:=info_parts Try.infoHf
 obtain⟨j0,hj0,hy0,hy1,hy2⟩:=info_parts Try.infoHs
 clear hv he hfit r
 go_enter Try.func19,Try.ntmps19
 go_wp2_with fail
 first|refine wp_name (fun W hW=> ?_)|refine calls_name (fun W hW=> ?_)
 have HW:Hid (Below w.heap.size w W):=Lib.hid (by rw[←hW];repeat (first|exact Below.refl _ _|refine below_alloc ?_))
 have HWs:Hid (W.heap.size=w.heap.size+1):=Lib.hid (by rw[←hW];simp)
 have HBW:Hid (W.heap.size≤W.heap.size):=Lib.hid (by have:=HWs.out;omega)
 have HC:=fun(W1:World) (hb:Below (W.heap.size) W W1)=>Lib.hid (show W1.cell? ⟨w.heap.size,0,none⟩=some (.slice va vn vc)∧W1.cell? ⟨w.heap.size,1,none⟩=some (.slice ea en ec) from by exact⟨(hb.cell (p:=⟨w.heap.size,0,none⟩) (by show w.heap.size<W.heap.size;have:=HWs.out;omega)).trans (by rw[←hW];clear hW;go_simp),(hb.cell (p:=⟨w.heap.size,1,none⟩) (by show w.heap.size<W.heap.size;have:=HWs.out;omega)).trans (by rw[←hW];clear hW;go_simp)⟩)
 have HB:=Lib.hid (Below.refl (W.heap.size) W)
 clear hW
 obtain⟨q1_0,q1_1⟩:=(HC _ HB.out).out
 have r1_0:=Nat.lt_of_lt_of_le (show w.heap.size<W.heap.size by have:=HWs.out;omega) HB.out.size
 have HRT:=fun(W1:World) (hb:Below W.heap.size W W1)=>Lib.hid (show Calls Try.prog 12 #[.agg #[.slice va vn vc, .slice ea en ec]] W1 fun e w'=>e= .returned (.bool true)∧Below W1.heap.size W1 w' from by
  have hbb:=args_below HW.out hb hB HW.out.size
  have:=right_any (w:=W1) (vc:=vc) (HVI.out.below hbb) (HE.out.below hbb) (Nat.le_trans hB (Nat.le_trans HW.out.size hb.size)) (by omega) (by omega) hec HF.out
  rw[rightB_iff.2 HR.out] at this
  exact this)
 have HTN:=fun(W1:World) (hb:Below W.heap.size W W1)=>Lib.hid (spinTurn_any (w:=W1) (vc:=vc) (ec:=ec) HR.out (HVI.out.below (args_below HW.out hb hB HW.out.size)) (HE.out.below (args_below HW.out hb hB HW.out.size)) (Nat.le_trans hB (Nat.le_trans HW.out.size hb.size)) HF.out)
 refine((HRT _ HB.out).out).mono ?_
 rintro e w2 ⟨rfl,hb2⟩
 have HB:=Lib.hid (below_next (below_next HB.out (Nat.le_trans HBW.out HB.out.size) (by repeat (first|exact Below.refl _ _|refine below_alloc ?_))) (by first|exact(Nat.le_trans HBW.out HB.out.size)|(simp;done)|(have h1:=HBW.out;have h2:=HB.out.size;simp;omega)) hb2)
 clear q1_0 q1_1 r1_0
 obtain⟨q2_0,q2_1⟩:=(HC _ HB.out).out
 clear hb2
 have r2_0:=Nat.lt_of_lt_of_le (show w.heap.size<W.heap.size by have:=HWs.out;omega) HB.out.size
 go_wp2_with fail
 refine(HTN _ HB.out).out.mono ?_
 rintro e w2 ⟨ma,mf,mo,mn,nn,rfl,hm,hlo,hb2⟩
 have HB:=Lib.hid (below_next HB.out (Nat.le_trans HBW.out HB.out.size) hb2)
 have HM2:=Lib.hid hm
 have HML:=Lib.hid hm.lt
 clear hb2 hm hlo
 clear q2_0 q2_1 r2_0
 obtain⟨q3_0,q3_1⟩:=(HC _ HB.out).out
 have r3_0:=Nat.lt_of_lt_of_le (show w.heap.size<W.heap.size by have:=HWs.out;omega) HB.out.size
 go_wp2_with fail
 refine wp_name (fun V hV=> ?_)
 have HBV:=Lib.hid (show Below w2.heap.size w2 V from by rw[←hV];exact below_alloc (below_alloc (Below.refl _ _)))
 have HVs:=Lib.hid (show V.heap.size=w2.heap.size+1+1 from by rw[←hV];simp)
 have hws:w.heap.size<w2.heap.size:=by have:=HB.out.size;have:=HWs.out;omega
 have HWS:=Lib.hid hws
 have hc3:V.cell? ⟨w2.heap.size,3,none⟩=some (.map (some mn)):=by rw[←hV];simp[World.cell?_alloc_new]
 have hmm0:MapT V Try.prog 45 (w2.heap.size+1) 0 ekH bV (fun _=>none):=by
  rw[←hV]
  have:=MapT.made (w2.alloc (.cells #[.map (some ma), .map (some mf), .map (some mo), .map (some mn)] 118)) Try.prog 45 ekH bV
  have e9:(w2.alloc (.cells #[.map (some ma), .map (some mf), .map (some mo), .map (some mn)] 118)).heap.size=w2.heap.size+1:=by simp
  rw[e9] at this
  exact this
 have HM0:=Lib.hid hmm0
 have CF:=fun(wr:World) (t:Touch [w2.heap.size+1] V wr)=>Lib.hid (show wr.cell? ⟨w.heap.size,0,none⟩=some (.slice va vn vc)∧wr.cell? ⟨w.heap.size,1,none⟩=some (.slice ea en ec)∧wr.cell? ⟨w2.heap.size,3,none⟩=some (.map (some mn)) from by
  have h1:=HVs.out
  have h2:=HWS.out
  have hcc:=(HC _ HB.out).out
  exact⟨((t.cell (p:=⟨w.heap.size,0,none⟩) (by show w.heap.size<V.heap.size;omega) (by simp;omega)).trans (HBV.out.cell (p:=⟨w.heap.size,0,none⟩) h2)).trans hcc.1,((t.cell (p:=⟨w.heap.size,1,none⟩) (by show w.heap.size<V.heap.size;omega) (by simp;omega)).trans (HBV.out.cell (p:=⟨w.heap.size,1,none⟩) h2)).trans hcc.2,
   (t.cell (p:=⟨w2.heap.size,3,none⟩) (by show w2.heap.size<V.heap.size;omega) (by simp)).trans hc3⟩)
 have HNX:=fun(wr:World) (t:Touch [w2.heap.size+1] V wr)=>Lib.hid (((HM2.out.below HBV.out).touch t (by have:=HML.out;simp;omega)))
 have HAR:=fun(wr:World) (t:Touch [w2.heap.size+1] V wr)=>Lib.hid (show Below w.heap.size w wr from((HW.out.trans (HB.out.mono HW.out.size)).trans (HBV.out.mono (by have:=HWS.out;omega))).trans (t.below (by have:=HVs.out;have:=HWS.out;omega) (by have:=HWS.out;simp;omega)))
 clear hV hc3 hmm0
 clear q3_0 q3_1 r3_0
 clear hws
 go_loopw [5,21] (fun o i wr=> ∃(j:Nat) (L:List (List Hf)) (M:List Hf) (ov:Value),j≤en∧i= .int .i64 j∧ov=o∧RgW V wr p (w2.heap.size+1) (2*j) ov L M) (fun _ i _=>en - (intOf i).toNat)
 case atStart=>exact⟨0,[],[],_,Nat.zero_le _,rfl,rfl,RiS.nil _ _ _,RngS.start p,by rw[mtM_nil];exact HM0.out,Touch.refl _ _⟩
 case round=>
  clear HM0
  obtain⟨j,L,M,ov,hj,rfl,rfl,hI⟩:=hrel
  have HI:=Lib.hid hI
  obtain⟨c0,c1,c2⟩:=(CF _ hI.tch).out
  clear hI
  have HEN:=Lib.hid (show p.es.length≤1024 from HR.out.ne)
  by_cases hlj:j<en
  ·obtain⟨eb,eoff,e,rfl,heb,he,e0,e1,e2⟩:=(HE.out.below ((HAR wr HI.out.tch).out.mono hB)).at_ hlj
   have hfe:=(HF.out.es e (List.mem_of_getElem? he)).1
   have HHA:=Lib.hid (halves_at he)
   have hl1:w.heap.size<wr.heap.size:=by have:=HI.out.tch.size;have:=HVs.out;have:=HWS.out;omega
   have hl2:w2.heap.size<wr.heap.size:=by have:=HI.out.tch.size;have:=HVs.out;omega
   have hebw:eb<wr.heap.size:=by omega
   have hbl:Below wr.heap.size wr ((wr.alloc (.cells #[.int .i64 e.id, .int .i64 e.a, .int .i64 e.b] 63)).alloc (.cells #[.bool false, .bool true] 4)):=below_alloc (below_alloc (Below.refl _ _))
   have HE0:Hid (RgW V ((wr.alloc (.cells #[.int .i64 e.id, .int .i64 e.a, .int .i64 e.b] 63)).alloc (.cells #[.bool false, .bool true] 4)) p (w2.heap.size+1) (2*j+0) ov L M∧((wr.alloc (.cells #[.int .i64 e.id, .int .i64 e.a, .int .i64 e.b] 63)).alloc (.cells #[.bool false, .bool true] 4)).rowIs wr.heap.size 63 3 (edF e)∧((wr.alloc (.cells #[.int .i64 e.id, .int .i64 e.a, .int .i64 e.b] 63)).alloc (.cells #[.bool false, .bool true] 4)).rowIs (wr.heap.size+1) 4 2 boF):=Lib.hid (by
    refine⟨⟨HI.out.ri.touch (F:=[]) (Touch.of_below hbl) (by simp),HI.out.st,HI.out.mt.below hbl,touch_later HI.out.tch hbl⟩, ?_, ?_⟩
    ·exact World.rowIs.alloc (World.rowIs_alloc wr #[.int .i64 e.id, .int .i64 e.a, .int .i64 e.b] 63 (edF e) (fun i hi=>by rcases i with _|_|_|i<;>first|rfl|(simp at hi;omega))) _
    ·have:=World.rowIs_alloc (wr.alloc (.cells #[.int .i64 e.id, .int .i64 e.a, .int .i64 e.b] 63)) #[.bool false, .bool true] 4 boF (fun i hi=>by rcases i with _|_|i<;>first|rfl|(simp at hi;omega))
     have e9:(wr.alloc (.cells #[.int .i64 e.id, .int .i64 e.a, .int .i64 e.b] 63)).heap.size=wr.heap.size+1:=by simp
     rw[e9] at this
     exact this)
   have HKF:=fun b=>Lib.hid (key_h (h:=⟨e.id,b⟩) hfe)
   have HLW:=Lib.hid (show V.heap.size≤wr.heap.size from HI.out.tch.size)
   have HHM:=Lib.hid (show∀b,(⟨e.id,b⟩:Hf)∈halvesE p.es from fun b=>mem_halves.2 ⟨e,List.mem_of_getElem? he,rfl⟩)
   clear he hfe HI hbl
   go_wp2_with fail
   clear c0 c1 c2 hl1 hl2 hebw e0 e1 e2
   obtain⟨wp,rfl⟩: ∃wp:World,wp=wr:=⟨_,rfl⟩
   go_loopw [5,27] (fun o i wr=> ∃(k:Nat) (L:List (List Hf)) (M:List Hf) (ov:Value),k≤2∧i= .int .i64 k∧ov=o∧RgW V wr p (w2.heap.size+1) (2*j+k) ov L M∧wr.rowIs wp.heap.size 63 3 (edF e)∧wr.rowIs (wp.heap.size+1) 4 2 boF) (fun _ i _=>2 - (intOf i).toNat)
   case atStart=>exact⟨0,L,M,ov,by omega,rfl,rfl,HE0.out⟩
   case round=>
    clear HE0
    obtain⟨k,L,M,ov,hk,rfl,rfl,hI,hed,hbo⟩:=hrel
    have HI:=Lib.hid hI
    have HED:=Lib.hid hed
    have HBO:=Lib.hid hbo
    clear hI hed hbo
    rcases(show k=2∨ ∃b:Bool,boF k= .bool b∧k<2∧(halvesE p.es)[2*j+k]? =some ⟨e.id,b⟩ by
     rcases(show k=0∨k=1∨k=2 by omega) with rfl|rfl|rfl
     ·exact .inr ⟨false,rfl,by omega,HHA.out.1⟩
     ·exact .inr ⟨true,rfl,by omega,HHA.out.2⟩
     ·exact .inl rfl) with rfl|⟨b,hb0,hk2,hhk⟩
    ·go_wp2_with fail
     go_roundw
     case rel=>exact⟨j+1,L,M,ov,by omega,by go_num,rfl,HI.out⟩
     case measure=>simp[intOf];omega
    ·have d0:=World.rowIs.cell HBO.out hk2
     rw[hb0] at d0
     have x0:=World.rowIs.cell HED.out (i:=0) (by decide)
     simp only[edF] at x0
     have hw1:=World.rowIs.lt HED.out
     have hw2:=World.rowIs.lt HBO.out
     have hkc:decide ((k:Int)<2)=true:=decide_eq_true (by omega)
     have HHK:=Lib.hid hhk
     have HWQ:=Lib.hid hw2
     have HO0:Hid (OrW wr (wr.alloc (.cells #[.int .i64 e.id, .bool b] 45)) p (w2.heap.size+1) M ⟨e.id,b⟩ [] ⟨e.id,b⟩ (.slice none 0 0) wr.heap.size):=Lib.hid (by
      have hbl:Below wr.heap.size wr (wr.alloc (.cells #[.int .i64 e.id, .bool b] 45)):=below_alloc (Below.refl _ _)
      refine⟨OrbS.start HI.out.st.nd HI.out.st.mem (HHM.out b),World.ownsRow_nil _ _ _ _, ?_,Nat.le_refl _,by simp[Value.ownBlock],by rw[List.append_nil];exact HI.out.mt.below hbl,Touch.of_below hbl⟩
      exact World.rowIs_alloc wr #[.int .i64 e.id, .bool b] 45 (hbF e.id b) (fun i hi=>by rcases i with _|_|i<;>first|rfl|(simp at hi;omega)))
     clear hb0 hhk
     go_wp2_with fail
     clear d0 x0 hw1 hw2
     obtain⟨wq,rfl⟩: ∃wq:World,wq=wr:=⟨_,rfl⟩
     go_loopw [10,11] (fun v q wr=> ∃(R:List Hf) (h:Hf) (bx:Nat) (rv:Value),q= .pointer (some ⟨bx,0,none⟩)∧rv=v∧OrW wq wr p (w2.heap.size+1) M ⟨e.id,b⟩ R h rv bx) (fun v _ _=>2*p.es.length+1 - lenV v)
     case atStart=>exact⟨[],⟨e.id,b⟩,_,_,rfl,rfl,HO0.out⟩
     case round=>
      clear HO0
      obtain⟨R,h,bx,rv,rfl,rfl,hO⟩:=hrel
      have HO:=Lib.hid hO
      clear hO
      obtain⟨ra,rc,hrv⟩:=own_form HO.out.own
      subst hrv
      have y0:=World.rowIs.cell HO.out.bx (i:=0) (by decide)
      have y1:=World.rowIs.cell HO.out.bx (i:=1) (by decide)
      simp only[hbF] at y0 y1
      have hfit:=HF.out.half HO.out.st.hm
      have HKH:=Lib.hid (key_h hfit)
      have lkm:=look_mt (t:=120) HO.out.mt Try.keyHalf Try.underlying120 (zeroBool wr) (key_h hfit)
      have hbw:=World.rowIs.lt HO.out.bx
      clear hfit
      by_cases hmem:h∈M++R
      ·rw[decide_eq_true hmem] at lkm
       have HMM:=Lib.hid hmem
       clear hmem
       have HX:=Lib.hid (show RgW V wr p (w2.heap.size+1) (2*j+(k+1)) ov L (M++R)→True from fun _=>trivial)
       clear HX
       have hmV: ∀b∈[w2.heap.size+1],b<V.heap.size:=by have:=HVs.out;simp;omega
       have HRI:=Lib.hid (HI.out.ri.touch HO.out.tch hmV)
       have HST:=Lib.hid (HI.out.st.step HHK.out HO.out.st HMM.out)
       have HTC:=Lib.hid (HI.out.tch.trans HO.out.tch (fun b hb=> .inl hb))
       have hmq: ∀b,V.heap.size≤b→b∉ [w2.heap.size+1]:=fun b hb hm=>by have:=HVs.out;simp at hm;omega
       have HEQ:=Lib.hid (rowIs_touch HED.out HO.out.tch (hmq _ HLW.out))
       have HBQ:=Lib.hid (rowIs_touch HBO.out HO.out.tch (hmq _ (Nat.le_succ_of_le HLW.out)))
       clear hmV hmq
       by_cases hR:R=[]
       ·subst hR
        have HRI2:=Lib.hid (show RgW V wr p (w2.heap.size+1) (2*j+(k+1)) ov L (M++[]) from⟨HRI.out,by have:=HST.out;rw[if_pos rfl] at this;exact this,HO.out.mt,HTC.out⟩)
        simp only[List.length_nil] at*
        go_wp2_with fail
        go_roundw
        case rel=>exact⟨k+1,L,M++[],ov,by omega,by go_num,rfl,HRI2.out,HEQ.out,HBQ.out⟩
        case measure=>simp[intOf];omega
       ·have hRp:=List.length_pos_iff.2 hR
        have hRc:decide ((0:Int)<(R.length:Int))=true:=decide_eq_true (by omega)
        have HRN:=Lib.hid hR
        obtain⟨g,cap,hgv⟩:=ownsRow_form HO.out.own hRp
        injection hgv with hg1 hg2 hg3
        subst hg1
        obtain⟨xs,hxs⟩:=HRI.out.own
        have HXS:=Lib.hid hxs
        have HLL:=Lib.hid (HI.out.st.len HR.out)
        have HGL:=Lib.hid (HO.out.own.lt g rfl)
        have HNE:=Lib.hid (show ov.ownBlock≠some g from fun e=>by have h1:=(HI.out.ri.lt e).2;have h2:=HGL.out.1;omega)
        clear hR hg2 hg3 hxs
        go_wp2_with (at_builtin;refine wpList_append_near _ rfl (.tmp 53) (.tmp 55) 38 rfl V.heap.size 33 j0 (.slice none 0 0) 1 24 Try.underlying38 hj0 hy0 hy1 hy2 rfl (by decide) ov L.length xs rfl (HXS.out.alloc _) ⟨wr.heap.size,0,none⟩ 1 1 [.slice (some ⟨g,0,none⟩) R.length rc] rfl (by decide) rfl (fun q u hu=>by rw[addr_add0];rcases q with _|q<;>simp at hu;subst hu;simp[World.cell?_alloc_new]) (by simp[Value.oneCell']) (by have:=HLL.out;have:=HEN.out;unfold maxLen;omega) (by have:=HLL.out;have:=HEN.out;omega) (by have:=HTC.out.size;simp;omega) ?_;intro g9 cap9 w9 hown hgr hat;have HN9:=Lib.hid (HRI.out.add (c:=rc) (Nat.le_trans (Nat.le_trans HLW.out (Nat.le_of_lt (Nat.lt_trans (Nat.lt_succ_self _) HWQ.out))) HGL.out.1) HGL.out.2 HNE.out (own_hs HO.out.own) HXS.out (below_alloc (Below.refl _ _)) hown hgr hat);have HRL9:=Lib.hid (fun q (hq:ov.ownBlock=some q)=>(HRI.out.lt hq).1);have k9:=(Touch.of_below (F:=ov.ownBlock.toList) (below_alloc (o:= .cells #[.slice (some ⟨g,0,none⟩) R.length rc] 33) (Below.refl wr.heap.size wr))).trans (Touch.of_grown hgr) (fun x hx=> .inl hx);have HM9:=Lib.hid (HO.out.mt.touch k9 (fun hm=>by have:=HRL9.out _ (Option.mem_toList.1 hm);have:=HVs.out;omega));have HT9:=Lib.hid (HTC.out.trans k9 (fun q hq=> .inr (HRL9.out q (Option.mem_toList.1 hq))));have HE9:=Lib.hid (rowIs_touch HEQ.out k9 (own_not HXS.out HEQ.out (by decide)));have HB9:=Lib.hid (rowIs_touch HBQ.out k9 (own_not HXS.out HBQ.out (by decide)));clear hown hgr hat k9)
        go_roundw
        case rel=>exact⟨k+1,L++[R],M++R,_,by omega,by go_num,rfl,⟨HN9.out,by have:=HST.out;rw[if_neg HRN.out] at this;exact this,HM9.out,HT9.out⟩,HE9.out,HB9.out⟩
        case measure=>simp[intOf];omega
      ·rw[decide_eq_false hmem] at lkm
       have HMM:=Lib.hid hmem
       have HLL:=Lib.hid HO.out.st.len
       clear hmem
       have hmq: ∀b,V.heap.size≤b→b∉(some (w2.heap.size+1)).toList:=fun b hb hm=>by have:=HVs.out;simp at hm;omega
       have HQV:=Lib.hid (show V.heap.size≤wq.heap.size from HI.out.tch.size)
       go_wp2_with (first|(at_mapUpdate;refine wpList_update_T _ rfl _ _ _ 120 rfl 45 4 Try.keyHalf Try.underlying120 (w2.heap.size+1) (M++R).length ekH bV (mtM (M++R)) HO.out.mt rfl (by have:=HLL.out;have:=HEN.out;rw[List.length_append];unfold maxLen;omega) h _ rfl HKH.out (ekH_inj _) true rfl ?_;intro w5 hm5 hg5;rw[mtM_snoc] at hm5;have HM5:=Lib.hid hm5;have k5:=Touch.of_grown hg5;have HB5:=Lib.hid (rowIs_touch HO.out.bx k5 (hmq _ (Nat.le_trans HQV.out HO.out.lo)));have HW5:=Lib.hid (ownsRow_touch HO.out.own k5 (fun q hq=>hmq _ (Nat.le_trans HQV.out (HO.out.own.lt q hq).1)));have HT5:=Lib.hid (HO.out.tch.trans k5 (by simp));clear hm5 hg5 k5 y0 y1 hbw lkm;have y0:=World.rowIs.cell HB5.out (i:=0) (by decide);have y1:=World.rowIs.cell HB5.out (i:=1) (by decide);have hbw:=World.rowIs.lt HB5.out;simp only[hbF] at y0 y1)|(at_builtin;go_loud (refine wpList_append_near _ rfl (.tmp 45) (.tmp 47) 33 rfl wq.heap.size 45 i0 (.agg #[.int .i64 0, .bool false]) 2 16 Try.underlying33 hi hz0 hz1 hz2 rfl (by decide) (.slice ra R.length rc) R.length (hfC R) rfl (HW5.out.alloc _) ⟨w5.heap.size,0,none⟩ 1 1 [.int .i64 h.edge, .bool h.back] rfl (by decide) rfl (fun q u hu=>by rw[addr_add0];exact cell_two_at hu) (by intro u hu;simp at hu;rcases hu with rfl|rfl<;>rfl) (by have:=HLL.out;have:=HEN.out;unfold maxLen;omega) (by have:=HLL.out;have:=HEN.out;omega) (by have:=HT5.out.size;simp;omega) ?_;intro g9 cap9 w9 hown hgr hat;have HOW:=Lib.hid hown;have k9:=(Touch.of_below (F:=(Value.slice ra R.length rc).ownBlock.toList) (below_alloc (o:= .cells #[.int .i64 h.edge, .bool h.back] 45) (Below.refl w5.heap.size w5))).trans (Touch.of_grown hgr) (fun x hx=> .inl hx);have HRL9:=Lib.hid (fun q (hq:(Value.slice ra R.length rc).ownBlock=some q)=>(HW5.out.lt q hq).1);have HB9:=Lib.hid (rowIs_touch HB5.out k9 (fun hm=>HO.out.ne (Option.mem_toList.1 hm)));have HM9:=Lib.hid (HM5.out.touch k9 (fun hm=>by have:=HRL9.out _ (Option.mem_toList.1 hm);have:=HVs.out;have:=HQV.out;omega));have HT9:=Lib.hid (HT5.out.trans k9 (fun q hq=> .inr (HRL9.out q (Option.mem_toList.1 hq))));have HTV:=Lib.hid (HI.out.tch.trans HT9.out (fun b hb=> .inl hb));clear hown hgr hat k9 y0 y1 hbw;have y0:=World.rowIs.cell HB9.out (i:=0) (by decide);have y1:=World.rowIs.cell HB9.out (i:=1) (by decide);have hbw:=World.rowIs.lt HB9.out;simp only[hbF] at y0 y1;obtain⟨c0,c1,c2⟩:=(CF _ HTV.out).out;have hl2:w2.heap.size<w9.heap.size:=(by have:=HTV.out.size;have:=HVs.out;omega);have lkn:=look_hf (t:=116) (HNX (w9.alloc (.cells #[.int .i64 h.edge, .bool h.back] 45)) (HTV.out.alloc _)).out Try.keyHalf Try.underlying116 (zeroHf _) HKH.out (show nxM p h=some (nextP p h) from if_pos HO.out.st.hm);simp only[ekH] at lkn)))
       go_roundw
       case rel=>
        refine⟨R++[h],nextP p h,w9.heap.size,_,rfl,rfl,HO.out.st.step HR.out HMM.out, ?_, ?_, ?_, ?_, ?_, ?_⟩
        ·have:=World.ownsRow.alloc HOW.out (.cells #[.int .i64 (nextP p h).edge, .bool (nextP p h).back] 45)
         rw[List.length_append,hfC_app]
         exact this
        ·exact World.rowIs_alloc w9 #[.int .i64 (nextP p h).edge, .bool (nextP p h).back] 45 (hbF (nextP p h).edge (nextP p h).back) (fun i hi=>by rcases i with _|_|i<;>first|rfl|(simp at hi;omega))
        ·exact HT9.out.size
        ·have:=(HOW.out.lt g9 rfl).2
         intro e
         simp[Value.ownBlock] at e
         omega
        ·rw[←List.append_assoc,List.length_append]
         exact HM9.out.alloc _
        ·exact HT9.out.alloc _
       case measure=>
        have:=HLL.out
        simp[lenV]
        omega
  ·obtain rfl:j=en:=by omega
   have HEL:=Lib.hid HE.out.1
   have HDN:=Lib.hid (show L=ringsP p from by
    have:=HI.out.st
    rw[HEL.out] at this
    exact this.done)
   have HRI:=Lib.hid (show RiS 33 V.heap.size wr ov (ringsP p) from HDN.out▸HI.out.ri)
   obtain⟨a,c,hov,hrg⟩:=HRI.out.rg
   have HRG:=Lib.hid hrg
   subst hov
   clear hrg
   go_wp2_with fail
   go_ret
   exact⟨a,c,rfl,HRG.out.mono (by have:=HVs.out;have:=HWS.out;omega),(HAR wr HI.out.tch).out⟩
end Go.Proofs.Ythopjhifepijiaa
namespace Go.Proofs.Ythopjhifepijiaa
open Go.RowKit Go.Joins
open Go.Maps (Keyed)
def endsP (p:PL) (h:Hf):Pt × Pt:=if h.back=true then((findV p.vs (findE p.es h.edge).b).at_,(findV p.vs (findE p.es h.edge).a).at_) else((findV p.vs (findE p.es h.edge).a).at_,(findV p.vs (findE p.es h.edge).b).at_)
set_option maxRecDepth 100000 in
set_option maxHeartbeats 4000000 in
theorem rends_any {w:World} {B vn vc en ec:Nat} {va ea:Option Addr} {p:PL} (hv:VsIn w B va vn p.vs) (he:EsIn w B ea en p.es) (hB:B≤w.heap.size) (hn:vn≤100000) (hm:en≤100000) (h:Hf):
  Calls Try.prog 58 #[.agg #[.slice va vn vc, .slice ea en ec], .agg #[.int .i64 h.edge, .bool h.back]] w fun e w'=>e= .returned (.tuple #[ptV (endsP p h).1,ptV (endsP p h).2, .bool (hasE p.es h.edge)])∧Below w.heap.size w w':=by
 have HED:=fun(W:World) (hb:Below w.heap.size w W)=>Lib.hid (edge_any (ec:=ec) (he.below (hb.mono hB)) (Nat.le_trans hB hb.size) hm (.slice va vn vc) ⟨_,_,_,rfl⟩ h.edge)
 have HVA:=fun(W:World) (hb:Below w.heap.size w W)=>Lib.hid (vertex_any (vc:=vc) (hv.below (hb.mono hB)) (Nat.le_trans hB hb.size) hn (.slice ea en ec) ⟨_,_,_,rfl⟩ (findE p.es h.edge).a)
 have HVB:=fun(W:World) (hb:Below w.heap.size w W)=>Lib.hid (vertex_any (vc:=vc) (hv.below (hb.mono hB)) (Nat.le_trans hB hb.size) hn (.slice ea en ec) ⟨_,_,_,rfl⟩ (findE p.es h.edge).b)
 unfold endsP
 obtain⟨hx,hbk⟩:=h
 simp only at HED HVA HVB ⊢
 generalize findE p.es hx=e at*
 generalize hasE p.es hx=ok at*
 generalize findV p.vs e.a=va_ at*
 generalize findV p.vs e.b=vb_ at*
 generalize hasV p.vs e.a=oka at*
 generalize hasV p.vs e.b=okb at*
 obtain⟨ei,e1,e2⟩:=e
 obtain⟨ai,⟨ax,ay⟩⟩:=va_
 obtain⟨bi,⟨bx,by_⟩⟩:=vb_
 simp only at HED HVA HVB ⊢
 clear hv he
 cases hbk
 ·go_enter Try.func58,Try.ntmps58
  go_wp2_with fail
  first|refine wp_name (fun W hW=> ?_)|refine calls_name (fun W hW=> ?_)
  have HW:Hid (Below w.heap.size w W):=Lib.hid (by rw[←hW];repeat (first|exact Below.refl _ _|refine below_alloc ?_))
  have HWs:Hid (W.heap.size=w.heap.size+1+1+1+1):=Lib.hid (by rw[←hW];simp)
  have HBW:Hid (W.heap.size≤W.heap.size):=Lib.hid (by have:=HWs.out;omega)
  have HC:=fun(W1:World) (hb:Below (W.heap.size) W W1)=>Lib.hid (show W1.cell? ⟨w.heap.size,0,none⟩=some (.slice va vn vc)∧W1.cell? ⟨w.heap.size,1,none⟩=some (.slice ea en ec)∧W1.cell? ⟨w.heap.size+1,0,none⟩=some (.int .i64 hx)∧W1.cell? ⟨w.heap.size+1,1,none⟩=some (.bool false)∧W1.cell? ⟨w.heap.size+1+1,0,none⟩=some (.int .i64 0)∧W1.cell? ⟨w.heap.size+1+1,1,none⟩=some (.int .i64 0)∧W1.cell? ⟨w.heap.size+1+1+1,0,none⟩=some (.int .i64 0)∧W1.cell? ⟨w.heap.size+1+1+1,1,none⟩=some (.int .i64 0) from by exact⟨(hb.cell (p:=⟨w.heap.size,0,none⟩) (by show w.heap.size<W.heap.size;have:=HWs.out;omega)).trans (by rw[←hW];clear hW;go_simp),(hb.cell (p:=⟨w.heap.size,1,none⟩) (by show w.heap.size<W.heap.size;have:=HWs.out;omega)).trans (by rw[←hW];clear hW;go_simp),(hb.cell (p:=⟨w.heap.size+1,0,none⟩) (by show w.heap.size+1<W.heap.size;have:=HWs.out;omega)).trans (by rw[←hW];clear hW;go_simp),(hb.cell (p:=⟨w.heap.size+1,1,none⟩) (by show w.heap.size+1<W.heap.size;have:=HWs.out;omega)).trans (by rw[←hW];clear hW;go_simp),(hb.cell (p:=⟨w.heap.size+1+1,0,none⟩) (by show w.heap.size+1+1<W.heap.size;have:=HWs.out;omega)).trans (by rw[←hW];clear hW;go_simp),(hb.cell (p:=⟨w.heap.size+1+1,1,none⟩) (by show w.heap.size+1+1<W.heap.size;have:=HWs.out;omega)).trans (by rw[←hW];clear hW;go_simp),(hb.cell (p:=⟨w.heap.size+1+1+1,0,none⟩) (by show w.heap.size+1+1+1<W.heap.size;have:=HWs.out;omega)).trans (by rw[←hW];clear hW;go_simp),(hb.cell (p:=⟨w.heap.size+1+1+1,1,none⟩) (by show w.heap.size+1+1+1<W.heap.size;have:=HWs.out;omega)).trans (by rw[←hW];clear hW;go_simp)⟩)
  have HB:=Lib.hid (Below.refl (W.heap.size) W)
  obtain⟨q1_0,q1_1,q1_2,q1_3,q1_4,q1_5,q1_6,q1_7⟩:=(HC _ HB.out).out
  have r1_0:=Nat.lt_of_lt_of_le (show w.heap.size<W.heap.size by have:=HWs.out;omega) HB.out.size
  have r1_1:=Nat.lt_of_lt_of_le (show w.heap.size+1<W.heap.size by have:=HWs.out;omega) HB.out.size
  have r1_2:=Nat.lt_of_lt_of_le (show w.heap.size+1+1<W.heap.size by have:=HWs.out;omega) HB.out.size
  have r1_3:=Nat.lt_of_lt_of_le (show w.heap.size+1+1+1<W.heap.size by have:=HWs.out;omega) HB.out.size
  have HFZ:=fun(W1:World) (hb:Below W.heap.size W W1)=>Lib.hid (show(∀j,W1.frozen? ⟨w.heap.size+1+1,j,none⟩=false)∧(∀j,W1.frozen? ⟨w.heap.size+1+1+1,j,none⟩=false) from
   ⟨fun j=>(hb.frozen (p:=⟨w.heap.size+1+1,j,none⟩) (by show w.heap.size+1+1<W.heap.size;have:=HWs.out;omega)).trans (by rw[←hW];clear hW;go_simp),fun j=>(hb.frozen (p:=⟨w.heap.size+1+1+1,j,none⟩) (by show w.heap.size+1+1+1<W.heap.size;have:=HWs.out;omega)).trans (by rw[←hW];clear hW;go_simp)⟩)
  clear hW
  refine((HED _ HW.out).out).mono ?_
  rintro e w1 ⟨rfl,hb2⟩
  have HB:=Lib.hid (below_next (below_next HB.out (Nat.le_trans HBW.out HB.out.size) (by repeat (first|exact Below.refl _ _|refine below_alloc ?_))) (by first|exact(Nat.le_trans HBW.out HB.out.size)|(simp;done)|(have h1:=HBW.out;have h2:=HB.out.size;simp;omega)) hb2)
  clear q1_0 q1_1 q1_2 q1_3 q1_4 q1_5 q1_6 q1_7 r1_0 r1_1 r1_2 r1_3
  obtain⟨q2_0,q2_1,q2_2,q2_3,q2_4,q2_5,q2_6,q2_7⟩:=(HC _ HB.out).out
  clear hb2
  have r2_0:=Nat.lt_of_lt_of_le (show w.heap.size<W.heap.size by have:=HWs.out;omega) HB.out.size
  have r2_1:=Nat.lt_of_lt_of_le (show w.heap.size+1<W.heap.size by have:=HWs.out;omega) HB.out.size
  have r2_2:=Nat.lt_of_lt_of_le (show w.heap.size+1+1<W.heap.size by have:=HWs.out;omega) HB.out.size
  have r2_3:=Nat.lt_of_lt_of_le (show w.heap.size+1+1+1<W.heap.size by have:=HWs.out;omega) HB.out.size
  go_wp2_with fail
  have HX1:=Lib.hid (HW.out.trans (HB.out.mono HW.out.size))
  first|refine wp_name (fun W2 hW2=> ?_)|refine calls_name (fun W2 hW2=> ?_)
  have HW2:Hid (Below w1.heap.size w1 W2):=Lib.hid (by rw[←hW2];repeat (first|exact Below.refl _ _|refine below_alloc ?_))
  have HWs2:Hid (W2.heap.size=w1.heap.size+1):=Lib.hid (by rw[←hW2];simp)
  have HBW2:Hid (W2.heap.size≤W2.heap.size):=Lib.hid (by have:=HWs2.out;omega)
  have HC2:=fun(W1:World) (hb:Below (W2.heap.size) W2 W1)=>Lib.hid (show W1.cell? ⟨w.heap.size,0,none⟩=some (.slice va vn vc)∧W1.cell? ⟨w.heap.size,1,none⟩=some (.slice ea en ec)∧W1.cell? ⟨w.heap.size+1,0,none⟩=some (.int .i64 hx)∧W1.cell? ⟨w.heap.size+1,1,none⟩=some (.bool false)∧W1.cell? ⟨w.heap.size+1+1,0,none⟩=some (.int .i64 0)∧W1.cell? ⟨w.heap.size+1+1,1,none⟩=some (.int .i64 0)∧W1.cell? ⟨w.heap.size+1+1+1,0,none⟩=some (.int .i64 0)∧W1.cell? ⟨w.heap.size+1+1+1,1,none⟩=some (.int .i64 0)∧W1.cell? ⟨w1.heap.size,0,none⟩=some (.int .i64 ei)∧W1.cell? ⟨w1.heap.size,1,none⟩=some (.int .i64 e1)∧W1.cell? ⟨w1.heap.size,2,none⟩=some (.int .i64 e2) from by have ho:=(HC W1 (in_of HB.out HW2.out hb (Nat.le_trans HBW.out HB.out.size) (by have h1:=HBW.out;have h2:=HB.out.size;have h3:=HW2.out.size;have h4:=HWs2.out;omega))).out;exact⟨ho.1,ho.2.1,ho.2.2.1,ho.2.2.2.1,ho.2.2.2.2.1,ho.2.2.2.2.2.1,ho.2.2.2.2.2.2.1,ho.2.2.2.2.2.2.2,(hb.cell (p:=⟨w1.heap.size,0,none⟩) (by show w1.heap.size<W2.heap.size;have:=HWs2.out;omega)).trans (by rw[←hW2];clear hW2;go_simp),(hb.cell (p:=⟨w1.heap.size,1,none⟩) (by show w1.heap.size<W2.heap.size;have:=HWs2.out;omega)).trans (by rw[←hW2];clear hW2;go_simp),(hb.cell (p:=⟨w1.heap.size,2,none⟩) (by show w1.heap.size<W2.heap.size;have:=HWs2.out;omega)).trans (by rw[←hW2];clear hW2;go_simp)⟩)
  have HB2:=Lib.hid (Below.refl (W2.heap.size) W2)
  clear hW2
  clear q2_0 q2_1 q2_2 q2_3 q2_4 q2_5 q2_6 q2_7 r2_0 r2_1 r2_2 r2_3
  obtain⟨q3_0,q3_1,q3_2,q3_3,q3_4,q3_5,q3_6,q3_7,q3_8,q3_9,q3_10⟩:=(HC2 _ HB2.out).out
  have r3_0:=Nat.lt_of_lt_of_le (show w.heap.size<W2.heap.size by have h0:w.heap.size<W.heap.size:=(by have:=HWs.out;omega);have h2:=HB.out.size;have h3:=HW2.out.size;omega) HB2.out.size
  have r3_1:=Nat.lt_of_lt_of_le (show w.heap.size+1<W2.heap.size by have h0:w.heap.size+1<W.heap.size:=(by have:=HWs.out;omega);have h2:=HB.out.size;have h3:=HW2.out.size;omega) HB2.out.size
  have r3_2:=Nat.lt_of_lt_of_le (show w.heap.size+1+1<W2.heap.size by have h0:w.heap.size+1+1<W.heap.size:=(by have:=HWs.out;omega);have h2:=HB.out.size;have h3:=HW2.out.size;omega) HB2.out.size
  have r3_3:=Nat.lt_of_lt_of_le (show w.heap.size+1+1+1<W2.heap.size by have h0:w.heap.size+1+1+1<W.heap.size:=(by have:=HWs.out;omega);have h2:=HB.out.size;have h3:=HW2.out.size;omega) HB2.out.size
  have r3_4:=Nat.lt_of_lt_of_le (show w1.heap.size<W2.heap.size by have:=HWs2.out;omega) HB2.out.size
  have HX2:=Lib.hid (below_step HW2.out HX1.out)
  refine((HVA _ HX2.out).out).mono ?_
  rintro e w3 ⟨rfl,hb4⟩
  have HB2:=Lib.hid (below_next (below_next HB2.out (Nat.le_trans HBW2.out HB2.out.size) (by repeat (first|exact Below.refl _ _|refine below_alloc ?_))) (by first|exact(Nat.le_trans HBW2.out HB2.out.size)|(simp;done)|(have h1:=HBW2.out;have h2:=HB2.out.size;simp;omega)) hb4)
  clear q3_0 q3_1 q3_2 q3_3 q3_4 q3_5 q3_6 q3_7 q3_8 q3_9 q3_10 r3_0 r3_1 r3_2 r3_3 r3_4
  obtain⟨q4_0,q4_1,q4_2,q4_3,q4_4,q4_5,q4_6,q4_7,q4_8,q4_9,q4_10⟩:=(HC2 _ HB2.out).out
  clear hb4
  have r4_0:=Nat.lt_of_lt_of_le (show w.heap.size<W2.heap.size by have h0:w.heap.size<W.heap.size:=(by have:=HWs.out;omega);have h2:=HB.out.size;have h3:=HW2.out.size;omega) HB2.out.size
  have r4_1:=Nat.lt_of_lt_of_le (show w.heap.size+1<W2.heap.size by have h0:w.heap.size+1<W.heap.size:=(by have:=HWs.out;omega);have h2:=HB.out.size;have h3:=HW2.out.size;omega) HB2.out.size
  have r4_2:=Nat.lt_of_lt_of_le (show w.heap.size+1+1<W2.heap.size by have h0:w.heap.size+1+1<W.heap.size:=(by have:=HWs.out;omega);have h2:=HB.out.size;have h3:=HW2.out.size;omega) HB2.out.size
  have r4_3:=Nat.lt_of_lt_of_le (show w.heap.size+1+1+1<W2.heap.size by have h0:w.heap.size+1+1+1<W.heap.size:=(by have:=HWs.out;omega);have h2:=HB.out.size;have h3:=HW2.out.size;omega) HB2.out.size
  have r4_4:=Nat.lt_of_lt_of_le (show w1.heap.size<W2.heap.size by have:=HWs2.out;omega) HB2.out.size
  go_wp2_with fail
  have HX3:=Lib.hid (HX2.out.trans (HB2.out.mono HX2.out.size))
  first|refine wp_name (fun W3 hW3=> ?_)|refine calls_name (fun W3 hW3=> ?_)
  have HW3:Hid (Below w3.heap.size w3 W3):=Lib.hid (by rw[←hW3];repeat (first|exact Below.refl _ _|refine below_alloc ?_))
  have HWs3:Hid (W3.heap.size=w3.heap.size+1):=Lib.hid (by rw[←hW3];simp)
  have HBW3:Hid (W3.heap.size≤W3.heap.size):=Lib.hid (by have:=HWs3.out;omega)
  have HC3:=fun(W1:World) (hb:Below (W3.heap.size) W3 W1)=>Lib.hid (show W1.cell? ⟨w.heap.size,0,none⟩=some (.slice va vn vc)∧W1.cell? ⟨w.heap.size,1,none⟩=some (.slice ea en ec)∧W1.cell? ⟨w.heap.size+1,0,none⟩=some (.int .i64 hx)∧W1.cell? ⟨w.heap.size+1,1,none⟩=some (.bool false)∧W1.cell? ⟨w.heap.size+1+1,0,none⟩=some (.int .i64 0)∧W1.cell? ⟨w.heap.size+1+1,1,none⟩=some (.int .i64 0)∧W1.cell? ⟨w.heap.size+1+1+1,0,none⟩=some (.int .i64 0)∧W1.cell? ⟨w.heap.size+1+1+1,1,none⟩=some (.int .i64 0)∧W1.cell? ⟨w1.heap.size,0,none⟩=some (.int .i64 ei)∧W1.cell? ⟨w1.heap.size,1,none⟩=some (.int .i64 e1)∧W1.cell? ⟨w1.heap.size,2,none⟩=some (.int .i64 e2)∧W1.cell? ⟨w3.heap.size,0,none⟩=some (.int .i64 ai)∧W1.cell? ⟨w3.heap.size,1,none⟩=some (.int .i64 ax)∧W1.cell? ⟨w3.heap.size,2,none⟩=some (.int .i64 ay) from by have ho:=(HC2 W1 (in_of HB2.out HW3.out hb (Nat.le_trans HBW2.out HB2.out.size) (by have h1:=HBW2.out;have h2:=HB2.out.size;have h3:=HW3.out.size;have h4:=HWs3.out;omega))).out;exact⟨ho.1,ho.2.1,ho.2.2.1,ho.2.2.2.1,ho.2.2.2.2.1,ho.2.2.2.2.2.1,ho.2.2.2.2.2.2.1,ho.2.2.2.2.2.2.2.1,ho.2.2.2.2.2.2.2.2.1,ho.2.2.2.2.2.2.2.2.2.1,ho.2.2.2.2.2.2.2.2.2.2,(hb.cell (p:=⟨w3.heap.size,0,none⟩) (by show w3.heap.size<W3.heap.size;have:=HWs3.out;omega)).trans (by rw[←hW3];clear hW3;go_simp),(hb.cell (p:=⟨w3.heap.size,1,none⟩) (by show w3.heap.size<W3.heap.size;have:=HWs3.out;omega)).trans (by rw[←hW3];clear hW3;go_simp),(hb.cell (p:=⟨w3.heap.size,2,none⟩) (by show w3.heap.size<W3.heap.size;have:=HWs3.out;omega)).trans (by rw[←hW3];clear hW3;go_simp)⟩)
  have HB3:=Lib.hid (Below.refl (W3.heap.size) W3)
  clear q4_0 q4_1 q4_2 q4_3 q4_4 q4_5 q4_6 q4_7 q4_8 q4_9 q4_10 r4_0 r4_1 r4_2 r4_3 r4_4
  obtain⟨q5_0,q5_1,q5_2,q5_3,q5_4,q5_5,q5_6,q5_7,q5_8,q5_9,q5_10,q5_11,q5_12,q5_13⟩:=(HC3 _ HB3.out).out
  have r5_0:=Nat.lt_of_lt_of_le (show w.heap.size<W3.heap.size by have h0:w.heap.size<W2.heap.size:=(by have h0:w.heap.size<W.heap.size:=(by have:=HWs.out;omega);have h2:=HB.out.size;have h3:=HW2.out.size;omega);have h2:=HB2.out.size;have h3:=HW3.out.size;omega) HB3.out.size
  have r5_1:=Nat.lt_of_lt_of_le (show w.heap.size+1<W3.heap.size by have h0:w.heap.size+1<W2.heap.size:=(by have h0:w.heap.size+1<W.heap.size:=(by have:=HWs.out;omega);have h2:=HB.out.size;have h3:=HW2.out.size;omega);have h2:=HB2.out.size;have h3:=HW3.out.size;omega) HB3.out.size
  have r5_2:=Nat.lt_of_lt_of_le (show w.heap.size+1+1<W3.heap.size by have h0:w.heap.size+1+1<W2.heap.size:=(by have h0:w.heap.size+1+1<W.heap.size:=(by have:=HWs.out;omega);have h2:=HB.out.size;have h3:=HW2.out.size;omega);have h2:=HB2.out.size;have h3:=HW3.out.size;omega) HB3.out.size
  have r5_3:=Nat.lt_of_lt_of_le (show w.heap.size+1+1+1<W3.heap.size by have h0:w.heap.size+1+1+1<W2.heap.size:=(by have h0:w.heap.size+1+1+1<W.heap.size:=(by have:=HWs.out;omega);have h2:=HB.out.size;have h3:=HW2.out.size;omega);have h2:=HB2.out.size;have h3:=HW3.out.size;omega) HB3.out.size
  have r5_4:=Nat.lt_of_lt_of_le (show w1.heap.size<W3.heap.size by have h0:w1.heap.size<W2.heap.size:=(by have:=HWs2.out;omega);have h2:=HB2.out.size;have h3:=HW3.out.size;omega) HB3.out.size
  have r5_5:=Nat.lt_of_lt_of_le (show w3.heap.size<W3.heap.size by have:=HWs3.out;omega) HB3.out.size
  have HFB:=fun(W1:World) (hb:Below W3.heap.size W3 W1)=>Lib.hid (show∀j,W1.frozen? ⟨w3.heap.size,j,none⟩=false from fun j=>(hb.frozen (p:=⟨w3.heap.size,j,none⟩) (by show w3.heap.size<W3.heap.size;have:=HWs3.out;omega)).trans (by rw[←hW3];clear hW3;go_simp))
  clear hW3
  have HX4:=Lib.hid (below_step HW3.out HX3.out)
  refine((HVB _ HX4.out).out).mono ?_
  rintro e w5 ⟨rfl,hb6⟩
  have HB3:=Lib.hid (below_next (below_next HB3.out (Nat.le_trans HBW3.out HB3.out.size) (by repeat (first|exact Below.refl _ _|refine below_alloc ?_))) (by first|exact(Nat.le_trans HBW3.out HB3.out.size)|(simp;done)|(have h1:=HBW3.out;have h2:=HB3.out.size;simp;omega)) hb6)
  clear q5_0 q5_1 q5_2 q5_3 q5_4 q5_5 q5_6 q5_7 q5_8 q5_9 q5_10 q5_11 q5_12 q5_13 r5_0 r5_1 r5_2 r5_3 r5_4 r5_5
  obtain⟨q6_0,q6_1,q6_2,q6_3,q6_4,q6_5,q6_6,q6_7,q6_8,q6_9,q6_10,q6_11,q6_12,q6_13⟩:=(HC3 _ HB3.out).out
  clear hb6
  have r6_0:=Nat.lt_of_lt_of_le (show w.heap.size<W3.heap.size by have h0:w.heap.size<W2.heap.size:=(by have h0:w.heap.size<W.heap.size:=(by have:=HWs.out;omega);have h2:=HB.out.size;have h3:=HW2.out.size;omega);have h2:=HB2.out.size;have h3:=HW3.out.size;omega) HB3.out.size
  have r6_1:=Nat.lt_of_lt_of_le (show w.heap.size+1<W3.heap.size by have h0:w.heap.size+1<W2.heap.size:=(by have h0:w.heap.size+1<W.heap.size:=(by have:=HWs.out;omega);have h2:=HB.out.size;have h3:=HW2.out.size;omega);have h2:=HB2.out.size;have h3:=HW3.out.size;omega) HB3.out.size
  have r6_2:=Nat.lt_of_lt_of_le (show w.heap.size+1+1<W3.heap.size by have h0:w.heap.size+1+1<W2.heap.size:=(by have h0:w.heap.size+1+1<W.heap.size:=(by have:=HWs.out;omega);have h2:=HB.out.size;have h3:=HW2.out.size;omega);have h2:=HB2.out.size;have h3:=HW3.out.size;omega) HB3.out.size
  have r6_3:=Nat.lt_of_lt_of_le (show w.heap.size+1+1+1<W3.heap.size by have h0:w.heap.size+1+1+1<W2.heap.size:=(by have h0:w.heap.size+1+1+1<W.heap.size:=(by have:=HWs.out;omega);have h2:=HB.out.size;have h3:=HW2.out.size;omega);have h2:=HB2.out.size;have h3:=HW3.out.size;omega) HB3.out.size
  have r6_4:=Nat.lt_of_lt_of_le (show w1.heap.size<W3.heap.size by have h0:w1.heap.size<W2.heap.size:=(by have:=HWs2.out;omega);have h2:=HB2.out.size;have h3:=HW3.out.size;omega) HB3.out.size
  have r6_5:=Nat.lt_of_lt_of_le (show w3.heap.size<W3.heap.size by have:=HWs3.out;omega) HB3.out.size
  have HX5:=Lib.hid (HX4.out.trans (HB3.out.mono HX4.out.size))
  have hy1:=HB.out
  have hy2:=below_next hy1 hy1.size HW2.out
  have hy3:=below_next hy2 hy2.size HB2.out
  have hy4:=below_next hy3 hy3.size HW3.out
  have HY5:=Lib.hid (below_next hy4 hy4.size HB3.out)
  have HSZ3:=Lib.hid (show W.heap.size≤w3.heap.size from hy3.size)
  have HSZ5:=Lib.hid (show w3.heap.size<w5.heap.size from by have:=HB3.out.size;have:=HWs3.out;omega)
  clear hy1 hy2 hy3 hy4
  have hfb:=(HFB _ HB3.out).out
  have hz0:=HWs.out
  have hz1:=HSZ3.out
  have hz2:=HSZ5.out
  go_wp2_with fail
  refine wp_name (fun c hc=> ?_)
  have hBc:Below W.heap.size W c:=by
   rw[←hc]
   repeat (first|exact HY5.out|refine Below.setCell ?_ (by first|(simp;omega)|omega) _|refine Below.alloc ?_ (by first|exact HY5.out.size|(simp;omega)) _)
  have hcells:c.cell? ⟨w3.heap.size,1,none⟩=some (.int .i64 ax)∧c.cell? ⟨w3.heap.size,1+1,none⟩=some (.int .i64 ay)∧c.cell? ⟨w5.heap.size,1,none⟩=some (.int .i64 bx)∧c.cell? ⟨w5.heap.size,1+1,none⟩=some (.int .i64 by_):=by
   rw[←hc]
   clear hc hBc
   refine⟨?_, ?_, ?_, ?_⟩<;>(go_simp)
  have hcs:w5.heap.size<c.heap.size:=by rw[←hc];simp
  have HBc:=Lib.hid hBc
  have HY:=fun(w':World) (t:Touch [w.heap.size+1+1,w.heap.size+1+1+1] c w')=>Lib.hid (show w'.cell? ⟨w3.heap.size,1,none⟩=some (.int .i64 ax)∧w'.cell? ⟨w3.heap.size,1+1,none⟩=some (.int .i64 ay)∧w'.cell? ⟨w5.heap.size,1,none⟩=some (.int .i64 bx)∧w'.cell? ⟨w5.heap.size,1+1,none⟩=some (.int .i64 by_) from
   ⟨(t.cell (p:=⟨w3.heap.size,_,none⟩) (by show w3.heap.size<_;omega) (by simp;omega)).trans hcells.1,(t.cell (p:=⟨w3.heap.size,_,none⟩) (by show w3.heap.size<_;omega) (by simp;omega)).trans hcells.2.1,(t.cell (p:=⟨w5.heap.size,_,none⟩) hcs (by simp;omega)).trans hcells.2.2.1,(t.cell (p:=⟨w5.heap.size,_,none⟩) hcs (by simp;omega)).trans hcells.2.2.2⟩)
  have HS0:=Lib.hid (Touch.refl [w.heap.size+1+1,w.heap.size+1+1+1] c).drew
  have hr:=(HC _ HBc.out).out
  have r0:=hr.2.2.2.2.1
  have r1:=hr.2.2.2.2.2.1
  have r2:=hr.2.2.2.2.2.2.1
  have r3:=hr.2.2.2.2.2.2.2
  have f0:=(HFZ _ HBc.out).out.1
  have f1:=(HFZ _ HBc.out).out.2
  clear hc hBc hcells hcs hr hfb hz0 hz1 hz2
  clear q6_0 q6_1 q6_2 q6_3 q6_4 q6_5 q6_6 q6_7 q6_8 q6_9 q6_10 q6_11 q6_12 q6_13 r6_0 r6_1 r6_2 r6_3 r6_4 r6_5
  refine wp_region_noPanic ?_
  refine wp_region_par3 7 7 (by kernel_rfl) (by kernel_rfl) (by simp) (by omega) (by kernel_rfl) (by kernel_rfl) (fun w':World=>Touch [w.heap.size+1+1,w.heap.size+1+1+1] c w') ?_
  refine par3_move (v:= ?_) 0 (by simp only[zga,zgb,zgc];rfl) (by kernel_rfl) (by rfl) ?_ (fun _ _ _ h=>h) ?_
  rotate_left
  ·(intro w9;go_simp;try with_reducible rfl)
  simp only[Act.put,zpa,zpb,zpc]
  refine par3_read (v:= ?_) 1 (by simp only[zga,zgb,zgc];rfl) (by kernel_rfl) (by rfl) HS0.out ?_ (fun _ _ _ h=>h) ?_
  rotate_left
  ·(intro w9 hSw;obtain⟨y0,y1,y2,y3⟩:=(HY w9 hSw).out;clear hSw;go_simp;try with_reducible rfl)
  simp only[Act.put,zpa,zpb,zpc]
  refine par3_move (v:= ?_) 2 (by simp only[zga,zgb,zgc];rfl) (by kernel_rfl) (by rfl) ?_ (fun _ _ _ h=>h) ?_
  rotate_left
  ·(intro w9;go_simp;try with_reducible rfl)
  simp only[Act.put,zpa,zpb,zpc]
  refine par3_read (v:= ?_) 3 (by simp only[zga,zgb,zgc];rfl) (by kernel_rfl) (by rfl) HS0.out ?_ (fun _ _ _ h=>h) ?_
  rotate_left
  ·(intro w9 hSw;obtain⟨y0,y1,y2,y3⟩:=(HY w9 hSw).out;clear hSw;go_simp;try with_reducible rfl)
  simp only[Act.put,zpa,zpb,zpc]
  refine par3_move (v:= ?_) 4 (by simp only[zga,zgb,zgc];rfl) (by kernel_rfl) (by rfl) ?_ (fun _ _ _ h=>h) ?_
  rotate_left
  ·(intro w9;go_simp;try with_reducible rfl)
  simp only[Act.put,zpa,zpb,zpc]
  refine par3_one 5 (by simp only[zga,zgb,zgc];rfl) (by kernel_rfl) (by rfl) ?_
  refine owp_skip (w1:= ?_) ?_ ?_
  rotate_left
  ·(go_simp;first|rfl|(constructor<;>rfl))
  refine⟨fun s _=>(s.setCell (.inl (by simp)) _).setCell (.inl (by simp)) _, ?_⟩
  simp only[Act.put,zpa,zpb,zpc]
  refine par3_one 6 (by simp only[zga,zgb,zgc];rfl) (by kernel_rfl) (by rfl) ?_
  refine owp_skip (w1:= ?_) ?_ ?_
  rotate_left
  ·(go_simp;first|rfl|(constructor<;>rfl))
  refine⟨fun s _=>(s.setCell (.inl (by simp)) _).setCell (.inl (by simp)) _, ?_⟩
  simp only[Act.put,zpa,zpb,zpc]
  refine par3_tail _ (by simp only[List.drop_succ_cons,List.drop_zero];rfl) (by kernel_rfl) ?_
  go_wp2_with fail
  refine NoPanic.normal ?_
  go_wp2_with fail
  refine bodyPost_ret (v:= .tuple #[.agg #[.int .i64 ax, .int .i64 ay], .agg #[.int .i64 bx, .int .i64 by_], .bool ok]) (by simp[results,Try.results58,go_sem, *]) rfl ⟨rfl, ?_⟩
  have h3:Below w.heap.size w c:=HW.out.trans (HBc.out.mono HW.out.size)
  exact((((h3.drew.setCell (by simp;omega) _).setCell (by simp;omega) _).setCell (by simp;omega) _).setCell (by simp;omega) _)
 ·go_enter Try.func58,Try.ntmps58
  go_wp2_with fail
  first|refine wp_name (fun W hW=> ?_)|refine calls_name (fun W hW=> ?_)
  have HW:Hid (Below w.heap.size w W):=Lib.hid (by rw[←hW];repeat (first|exact Below.refl _ _|refine below_alloc ?_))
  have HWs:Hid (W.heap.size=w.heap.size+1+1+1+1):=Lib.hid (by rw[←hW];simp)
  have HBW:Hid (W.heap.size≤W.heap.size):=Lib.hid (by have:=HWs.out;omega)
  have HC:=fun(W1:World) (hb:Below (W.heap.size) W W1)=>Lib.hid (show W1.cell? ⟨w.heap.size,0,none⟩=some (.slice va vn vc)∧W1.cell? ⟨w.heap.size,1,none⟩=some (.slice ea en ec)∧W1.cell? ⟨w.heap.size+1,0,none⟩=some (.int .i64 hx)∧W1.cell? ⟨w.heap.size+1,1,none⟩=some (.bool true)∧W1.cell? ⟨w.heap.size+1+1,0,none⟩=some (.int .i64 0)∧W1.cell? ⟨w.heap.size+1+1,1,none⟩=some (.int .i64 0)∧W1.cell? ⟨w.heap.size+1+1+1,0,none⟩=some (.int .i64 0)∧W1.cell? ⟨w.heap.size+1+1+1,1,none⟩=some (.int .i64 0) from by exact⟨(hb.cell (p:=⟨w.heap.size,0,none⟩) (by show w.heap.size<W.heap.size;have:=HWs.out;omega)).trans (by rw[←hW];clear hW;go_simp),(hb.cell (p:=⟨w.heap.size,1,none⟩) (by show w.heap.size<W.heap.size;have:=HWs.out;omega)).trans (by rw[←hW];clear hW;go_simp),(hb.cell (p:=⟨w.heap.size+1,0,none⟩) (by show w.heap.size+1<W.heap.size;have:=HWs.out;omega)).trans (by rw[←hW];clear hW;go_simp),(hb.cell (p:=⟨w.heap.size+1,1,none⟩) (by show w.heap.size+1<W.heap.size;have:=HWs.out;omega)).trans (by rw[←hW];clear hW;go_simp),(hb.cell (p:=⟨w.heap.size+1+1,0,none⟩) (by show w.heap.size+1+1<W.heap.size;have:=HWs.out;omega)).trans (by rw[←hW];clear hW;go_simp),(hb.cell (p:=⟨w.heap.size+1+1,1,none⟩) (by show w.heap.size+1+1<W.heap.size;have:=HWs.out;omega)).trans (by rw[←hW];clear hW;go_simp),(hb.cell (p:=⟨w.heap.size+1+1+1,0,none⟩) (by show w.heap.size+1+1+1<W.heap.size;have:=HWs.out;omega)).trans (by rw[←hW];clear hW;go_simp),(hb.cell (p:=⟨w.heap.size+1+1+1,1,none⟩) (by show w.heap.size+1+1+1<W.heap.size;have:=HWs.out;omega)).trans (by rw[←hW];clear hW;go_simp)⟩)
  have HB:=Lib.hid (Below.refl (W.heap.size) W)
  obtain⟨q7_0,q7_1,q7_2,q7_3,q7_4,q7_5,q7_6,q7_7⟩:=(HC _ HB.out).out
  have r7_0:=Nat.lt_of_lt_of_le (show w.heap.size<W.heap.size by have:=HWs.out;omega) HB.out.size
  have r7_1:=Nat.lt_of_lt_of_le (show w.heap.size+1<W.heap.size by have:=HWs.out;omega) HB.out.size
  have r7_2:=Nat.lt_of_lt_of_le (show w.heap.size+1+1<W.heap.size by have:=HWs.out;omega) HB.out.size
  have r7_3:=Nat.lt_of_lt_of_le (show w.heap.size+1+1+1<W.heap.size by have:=HWs.out;omega) HB.out.size
  have HFZ:=fun(W1:World) (hb:Below W.heap.size W W1)=>Lib.hid (show(∀j,W1.frozen? ⟨w.heap.size+1+1,j,none⟩=false)∧(∀j,W1.frozen? ⟨w.heap.size+1+1+1,j,none⟩=false) from
   ⟨fun j=>(hb.frozen (p:=⟨w.heap.size+1+1,j,none⟩) (by show w.heap.size+1+1<W.heap.size;have:=HWs.out;omega)).trans (by rw[←hW];clear hW;go_simp),fun j=>(hb.frozen (p:=⟨w.heap.size+1+1+1,j,none⟩) (by show w.heap.size+1+1+1<W.heap.size;have:=HWs.out;omega)).trans (by rw[←hW];clear hW;go_simp)⟩)
  clear hW
  refine((HED _ HW.out).out).mono ?_
  rintro e w1 ⟨rfl,hb8⟩
  have HB:=Lib.hid (below_next (below_next HB.out (Nat.le_trans HBW.out HB.out.size) (by repeat (first|exact Below.refl _ _|refine below_alloc ?_))) (by first|exact(Nat.le_trans HBW.out HB.out.size)|(simp;done)|(have h1:=HBW.out;have h2:=HB.out.size;simp;omega)) hb8)
  clear q7_0 q7_1 q7_2 q7_3 q7_4 q7_5 q7_6 q7_7 r7_0 r7_1 r7_2 r7_3
  obtain⟨q8_0,q8_1,q8_2,q8_3,q8_4,q8_5,q8_6,q8_7⟩:=(HC _ HB.out).out
  clear hb8
  have r8_0:=Nat.lt_of_lt_of_le (show w.heap.size<W.heap.size by have:=HWs.out;omega) HB.out.size
  have r8_1:=Nat.lt_of_lt_of_le (show w.heap.size+1<W.heap.size by have:=HWs.out;omega) HB.out.size
  have r8_2:=Nat.lt_of_lt_of_le (show w.heap.size+1+1<W.heap.size by have:=HWs.out;omega) HB.out.size
  have r8_3:=Nat.lt_of_lt_of_le (show w.heap.size+1+1+1<W.heap.size by have:=HWs.out;omega) HB.out.size
  go_wp2_with fail
  have HX1:=Lib.hid (HW.out.trans (HB.out.mono HW.out.size))
  first|refine wp_name (fun W2 hW2=> ?_)|refine calls_name (fun W2 hW2=> ?_)
  have HW2:Hid (Below w1.heap.size w1 W2):=Lib.hid (by rw[←hW2];repeat (first|exact Below.refl _ _|refine below_alloc ?_))
  have HWs2:Hid (W2.heap.size=w1.heap.size+1):=Lib.hid (by rw[←hW2];simp)
  have HBW2:Hid (W2.heap.size≤W2.heap.size):=Lib.hid (by have:=HWs2.out;omega)
  have HC2:=fun(W1:World) (hb:Below (W2.heap.size) W2 W1)=>Lib.hid (show W1.cell? ⟨w.heap.size,0,none⟩=some (.slice va vn vc)∧W1.cell? ⟨w.heap.size,1,none⟩=some (.slice ea en ec)∧W1.cell? ⟨w.heap.size+1,0,none⟩=some (.int .i64 hx)∧W1.cell? ⟨w.heap.size+1,1,none⟩=some (.bool true)∧W1.cell? ⟨w.heap.size+1+1,0,none⟩=some (.int .i64 0)∧W1.cell? ⟨w.heap.size+1+1,1,none⟩=some (.int .i64 0)∧W1.cell? ⟨w.heap.size+1+1+1,0,none⟩=some (.int .i64 0)∧W1.cell? ⟨w.heap.size+1+1+1,1,none⟩=some (.int .i64 0)∧W1.cell? ⟨w1.heap.size,0,none⟩=some (.int .i64 ei)∧W1.cell? ⟨w1.heap.size,1,none⟩=some (.int .i64 e1)∧W1.cell? ⟨w1.heap.size,2,none⟩=some (.int .i64 e2) from by have ho:=(HC W1 (in_of HB.out HW2.out hb (Nat.le_trans HBW.out HB.out.size) (by have h1:=HBW.out;have h2:=HB.out.size;have h3:=HW2.out.size;have h4:=HWs2.out;omega))).out;exact⟨ho.1,ho.2.1,ho.2.2.1,ho.2.2.2.1,ho.2.2.2.2.1,ho.2.2.2.2.2.1,ho.2.2.2.2.2.2.1,ho.2.2.2.2.2.2.2,(hb.cell (p:=⟨w1.heap.size,0,none⟩) (by show w1.heap.size<W2.heap.size;have:=HWs2.out;omega)).trans (by rw[←hW2];clear hW2;go_simp),(hb.cell (p:=⟨w1.heap.size,1,none⟩) (by show w1.heap.size<W2.heap.size;have:=HWs2.out;omega)).trans (by rw[←hW2];clear hW2;go_simp),(hb.cell (p:=⟨w1.heap.size,2,none⟩) (by show w1.heap.size<W2.heap.size;have:=HWs2.out;omega)).trans (by rw[←hW2];clear hW2;go_simp)⟩)
  have HB2:=Lib.hid (Below.refl (W2.heap.size) W2)
  clear hW2
  clear q8_0 q8_1 q8_2 q8_3 q8_4 q8_5 q8_6 q8_7 r8_0 r8_1 r8_2 r8_3
  obtain⟨q9_0,q9_1,q9_2,q9_3,q9_4,q9_5,q9_6,q9_7,q9_8,q9_9,q9_10⟩:=(HC2 _ HB2.out).out
  have r9_0:=Nat.lt_of_lt_of_le (show w.heap.size<W2.heap.size by have h0:w.heap.size<W.heap.size:=(by have:=HWs.out;omega);have h2:=HB.out.size;have h3:=HW2.out.size;omega) HB2.out.size
  have r9_1:=Nat.lt_of_lt_of_le (show w.heap.size+1<W2.heap.size by have h0:w.heap.size+1<W.heap.size:=(by have:=HWs.out;omega);have h2:=HB.out.size;have h3:=HW2.out.size;omega) HB2.out.size
  have r9_2:=Nat.lt_of_lt_of_le (show w.heap.size+1+1<W2.heap.size by have h0:w.heap.size+1+1<W.heap.size:=(by have:=HWs.out;omega);have h2:=HB.out.size;have h3:=HW2.out.size;omega) HB2.out.size
  have r9_3:=Nat.lt_of_lt_of_le (show w.heap.size+1+1+1<W2.heap.size by have h0:w.heap.size+1+1+1<W.heap.size:=(by have:=HWs.out;omega);have h2:=HB.out.size;have h3:=HW2.out.size;omega) HB2.out.size
  have r9_4:=Nat.lt_of_lt_of_le (show w1.heap.size<W2.heap.size by have:=HWs2.out;omega) HB2.out.size
  have HX2:=Lib.hid (below_step HW2.out HX1.out)
  refine((HVA _ HX2.out).out).mono ?_
  rintro e w3 ⟨rfl,hb10⟩
  have HB2:=Lib.hid (below_next (below_next HB2.out (Nat.le_trans HBW2.out HB2.out.size) (by repeat (first|exact Below.refl _ _|refine below_alloc ?_))) (by first|exact(Nat.le_trans HBW2.out HB2.out.size)|(simp;done)|(have h1:=HBW2.out;have h2:=HB2.out.size;simp;omega)) hb10)
  clear q9_0 q9_1 q9_2 q9_3 q9_4 q9_5 q9_6 q9_7 q9_8 q9_9 q9_10 r9_0 r9_1 r9_2 r9_3 r9_4
  obtain⟨q10_0,q10_1,q10_2,q10_3,q10_4,q10_5,q10_6,q10_7,q10_8,q10_9,q10_10⟩:=(HC2 _ HB2.out).out
  clear hb10
  have r10_0:=Nat.lt_of_lt_of_le (show w.heap.size<W2.heap.size by have h0:w.heap.size<W.heap.size:=(by have:=HWs.out;omega);have h2:=HB.out.size;have h3:=HW2.out.size;omega) HB2.out.size
  have r10_1:=Nat.lt_of_lt_of_le (show w.heap.size+1<W2.heap.size by have h0:w.heap.size+1<W.heap.size:=(by have:=HWs.out;omega);have h2:=HB.out.size;have h3:=HW2.out.size;omega) HB2.out.size
  have r10_2:=Nat.lt_of_lt_of_le (show w.heap.size+1+1<W2.heap.size by have h0:w.heap.size+1+1<W.heap.size:=(by have:=HWs.out;omega);have h2:=HB.out.size;have h3:=HW2.out.size;omega) HB2.out.size
  have r10_3:=Nat.lt_of_lt_of_le (show w.heap.size+1+1+1<W2.heap.size by have h0:w.heap.size+1+1+1<W.heap.size:=(by have:=HWs.out;omega);have h2:=HB.out.size;have h3:=HW2.out.size;omega) HB2.out.size
  have r10_4:=Nat.lt_of_lt_of_le (show w1.heap.size<W2.heap.size by have:=HWs2.out;omega) HB2.out.size
  go_wp2_with fail
  have HX3:=Lib.hid (HX2.out.trans (HB2.out.mono HX2.out.size))
  first|refine wp_name (fun W3 hW3=> ?_)|refine calls_name (fun W3 hW3=> ?_)
  have HW3:Hid (Below w3.heap.size w3 W3):=Lib.hid (by rw[←hW3];repeat (first|exact Below.refl _ _|refine below_alloc ?_))
  have HWs3:Hid (W3.heap.size=w3.heap.size+1):=Lib.hid (by rw[←hW3];simp)
  have HBW3:Hid (W3.heap.size≤W3.heap.size):=Lib.hid (by have:=HWs3.out;omega)
  have HC3:=fun(W1:World) (hb:Below (W3.heap.size) W3 W1)=>Lib.hid (show W1.cell? ⟨w.heap.size,0,none⟩=some (.slice va vn vc)∧W1.cell? ⟨w.heap.size,1,none⟩=some (.slice ea en ec)∧W1.cell? ⟨w.heap.size+1,0,none⟩=some (.int .i64 hx)∧W1.cell? ⟨w.heap.size+1,1,none⟩=some (.bool true)∧W1.cell? ⟨w.heap.size+1+1,0,none⟩=some (.int .i64 0)∧W1.cell? ⟨w.heap.size+1+1,1,none⟩=some (.int .i64 0)∧W1.cell? ⟨w.heap.size+1+1+1,0,none⟩=some (.int .i64 0)∧W1.cell? ⟨w.heap.size+1+1+1,1,none⟩=some (.int .i64 0)∧W1.cell? ⟨w1.heap.size,0,none⟩=some (.int .i64 ei)∧W1.cell? ⟨w1.heap.size,1,none⟩=some (.int .i64 e1)∧W1.cell? ⟨w1.heap.size,2,none⟩=some (.int .i64 e2)∧W1.cell? ⟨w3.heap.size,0,none⟩=some (.int .i64 ai)∧W1.cell? ⟨w3.heap.size,1,none⟩=some (.int .i64 ax)∧W1.cell? ⟨w3.heap.size,2,none⟩=some (.int .i64 ay) from by have ho:=(HC2 W1 (in_of HB2.out HW3.out hb (Nat.le_trans HBW2.out HB2.out.size) (by have h1:=HBW2.out;have h2:=HB2.out.size;have h3:=HW3.out.size;have h4:=HWs3.out;omega))).out;exact⟨ho.1,ho.2.1,ho.2.2.1,ho.2.2.2.1,ho.2.2.2.2.1,ho.2.2.2.2.2.1,ho.2.2.2.2.2.2.1,ho.2.2.2.2.2.2.2.1,ho.2.2.2.2.2.2.2.2.1,ho.2.2.2.2.2.2.2.2.2.1,ho.2.2.2.2.2.2.2.2.2.2,(hb.cell (p:=⟨w3.heap.size,0,none⟩) (by show w3.heap.size<W3.heap.size;have:=HWs3.out;omega)).trans (by rw[←hW3];clear hW3;go_simp),(hb.cell (p:=⟨w3.heap.size,1,none⟩) (by show w3.heap.size<W3.heap.size;have:=HWs3.out;omega)).trans (by rw[←hW3];clear hW3;go_simp),(hb.cell (p:=⟨w3.heap.size,2,none⟩) (by show w3.heap.size<W3.heap.size;have:=HWs3.out;omega)).trans (by rw[←hW3];clear hW3;go_simp)⟩)
  have HB3:=Lib.hid (Below.refl (W3.heap.size) W3)
  clear q10_0 q10_1 q10_2 q10_3 q10_4 q10_5 q10_6 q10_7 q10_8 q10_9 q10_10 r10_0 r10_1 r10_2 r10_3 r10_4
  obtain⟨q11_0,q11_1,q11_2,q11_3,q11_4,q11_5,q11_6,q11_7,q11_8,q11_9,q11_10,q11_11,q11_12,q11_13⟩:=(HC3 _ HB3.out).out
  have r11_0:=Nat.lt_of_lt_of_le (show w.heap.size<W3.heap.size by have h0:w.heap.size<W2.heap.size:=(by have h0:w.heap.size<W.heap.size:=(by have:=HWs.out;omega);have h2:=HB.out.size;have h3:=HW2.out.size;omega);have h2:=HB2.out.size;have h3:=HW3.out.size;omega) HB3.out.size
  have r11_1:=Nat.lt_of_lt_of_le (show w.heap.size+1<W3.heap.size by have h0:w.heap.size+1<W2.heap.size:=(by have h0:w.heap.size+1<W.heap.size:=(by have:=HWs.out;omega);have h2:=HB.out.size;have h3:=HW2.out.size;omega);have h2:=HB2.out.size;have h3:=HW3.out.size;omega) HB3.out.size
  have r11_2:=Nat.lt_of_lt_of_le (show w.heap.size+1+1<W3.heap.size by have h0:w.heap.size+1+1<W2.heap.size:=(by have h0:w.heap.size+1+1<W.heap.size:=(by have:=HWs.out;omega);have h2:=HB.out.size;have h3:=HW2.out.size;omega);have h2:=HB2.out.size;have h3:=HW3.out.size;omega) HB3.out.size
  have r11_3:=Nat.lt_of_lt_of_le (show w.heap.size+1+1+1<W3.heap.size by have h0:w.heap.size+1+1+1<W2.heap.size:=(by have h0:w.heap.size+1+1+1<W.heap.size:=(by have:=HWs.out;omega);have h2:=HB.out.size;have h3:=HW2.out.size;omega);have h2:=HB2.out.size;have h3:=HW3.out.size;omega) HB3.out.size
  have r11_4:=Nat.lt_of_lt_of_le (show w1.heap.size<W3.heap.size by have h0:w1.heap.size<W2.heap.size:=(by have:=HWs2.out;omega);have h2:=HB2.out.size;have h3:=HW3.out.size;omega) HB3.out.size
  have r11_5:=Nat.lt_of_lt_of_le (show w3.heap.size<W3.heap.size by have:=HWs3.out;omega) HB3.out.size
  have HFB:=fun(W1:World) (hb:Below W3.heap.size W3 W1)=>Lib.hid (show∀j,W1.frozen? ⟨w3.heap.size,j,none⟩=false from fun j=>(hb.frozen (p:=⟨w3.heap.size,j,none⟩) (by show w3.heap.size<W3.heap.size;have:=HWs3.out;omega)).trans (by rw[←hW3];clear hW3;go_simp))
  clear hW3
  have HX4:=Lib.hid (below_step HW3.out HX3.out)
  refine((HVB _ HX4.out).out).mono ?_
  rintro e w5 ⟨rfl,hb12⟩
  have HB3:=Lib.hid (below_next (below_next HB3.out (Nat.le_trans HBW3.out HB3.out.size) (by repeat (first|exact Below.refl _ _|refine below_alloc ?_))) (by first|exact(Nat.le_trans HBW3.out HB3.out.size)|(simp;done)|(have h1:=HBW3.out;have h2:=HB3.out.size;simp;omega)) hb12)
  clear q11_0 q11_1 q11_2 q11_3 q11_4 q11_5 q11_6 q11_7 q11_8 q11_9 q11_10 q11_11 q11_12 q11_13 r11_0 r11_1 r11_2 r11_3 r11_4 r11_5
  obtain⟨q12_0,q12_1,q12_2,q12_3,q12_4,q12_5,q12_6,q12_7,q12_8,q12_9,q12_10,q12_11,q12_12,q12_13⟩:=(HC3 _ HB3.out).out
  clear hb12
  have r12_0:=Nat.lt_of_lt_of_le (show w.heap.size<W3.heap.size by have h0:w.heap.size<W2.heap.size:=(by have h0:w.heap.size<W.heap.size:=(by have:=HWs.out;omega);have h2:=HB.out.size;have h3:=HW2.out.size;omega);have h2:=HB2.out.size;have h3:=HW3.out.size;omega) HB3.out.size
  have r12_1:=Nat.lt_of_lt_of_le (show w.heap.size+1<W3.heap.size by have h0:w.heap.size+1<W2.heap.size:=(by have h0:w.heap.size+1<W.heap.size:=(by have:=HWs.out;omega);have h2:=HB.out.size;have h3:=HW2.out.size;omega);have h2:=HB2.out.size;have h3:=HW3.out.size;omega) HB3.out.size
  have r12_2:=Nat.lt_of_lt_of_le (show w.heap.size+1+1<W3.heap.size by have h0:w.heap.size+1+1<W2.heap.size:=(by have h0:w.heap.size+1+1<W.heap.size:=(by have:=HWs.out;omega);have h2:=HB.out.size;have h3:=HW2.out.size;omega);have h2:=HB2.out.size;have h3:=HW3.out.size;omega) HB3.out.size
  have r12_3:=Nat.lt_of_lt_of_le (show w.heap.size+1+1+1<W3.heap.size by have h0:w.heap.size+1+1+1<W2.heap.size:=(by have h0:w.heap.size+1+1+1<W.heap.size:=(by have:=HWs.out;omega);have h2:=HB.out.size;have h3:=HW2.out.size;omega);have h2:=HB2.out.size;have h3:=HW3.out.size;omega) HB3.out.size
  have r12_4:=Nat.lt_of_lt_of_le (show w1.heap.size<W3.heap.size by have h0:w1.heap.size<W2.heap.size:=(by have:=HWs2.out;omega);have h2:=HB2.out.size;have h3:=HW3.out.size;omega) HB3.out.size
  have r12_5:=Nat.lt_of_lt_of_le (show w3.heap.size<W3.heap.size by have:=HWs3.out;omega) HB3.out.size
  have HX5:=Lib.hid (HX4.out.trans (HB3.out.mono HX4.out.size))
  have hy1:=HB.out
  have hy2:=below_next hy1 hy1.size HW2.out
  have hy3:=below_next hy2 hy2.size HB2.out
  have hy4:=below_next hy3 hy3.size HW3.out
  have HY5:=Lib.hid (below_next hy4 hy4.size HB3.out)
  have HSZ3:=Lib.hid (show W.heap.size≤w3.heap.size from hy3.size)
  have HSZ5:=Lib.hid (show w3.heap.size<w5.heap.size from by have:=HB3.out.size;have:=HWs3.out;omega)
  clear hy1 hy2 hy3 hy4
  have hfb:=(HFB _ HB3.out).out
  have hz0:=HWs.out
  have hz1:=HSZ3.out
  have hz2:=HSZ5.out
  go_wp2_with fail
  refine wp_name (fun c hc=> ?_)
  have hBc:Below W.heap.size W c:=by
   rw[←hc]
   repeat (first|exact HY5.out|refine Below.setCell ?_ (by first|(simp;omega)|omega) _|refine Below.alloc ?_ (by first|exact HY5.out.size|(simp;omega)) _)
  have hcells:c.cell? ⟨w3.heap.size,1,none⟩=some (.int .i64 bx)∧c.cell? ⟨w3.heap.size,1+1,none⟩=some (.int .i64 by_)∧c.cell? ⟨w5.heap.size,1,none⟩=some (.int .i64 ax)∧c.cell? ⟨w5.heap.size,1+1,none⟩=some (.int .i64 ay):=by
   rw[←hc]
   clear hc hBc
   refine⟨?_, ?_, ?_, ?_⟩<;>(go_simp)
  have hcs:w5.heap.size<c.heap.size:=by rw[←hc];simp
  have HBc:=Lib.hid hBc
  have HY:=fun(w':World) (t:Touch [w.heap.size+1+1,w.heap.size+1+1+1] c w')=>Lib.hid (show w'.cell? ⟨w3.heap.size,1,none⟩=some (.int .i64 bx)∧w'.cell? ⟨w3.heap.size,1+1,none⟩=some (.int .i64 by_)∧w'.cell? ⟨w5.heap.size,1,none⟩=some (.int .i64 ax)∧w'.cell? ⟨w5.heap.size,1+1,none⟩=some (.int .i64 ay) from
   ⟨(t.cell (p:=⟨w3.heap.size,_,none⟩) (by show w3.heap.size<_;omega) (by simp;omega)).trans hcells.1,(t.cell (p:=⟨w3.heap.size,_,none⟩) (by show w3.heap.size<_;omega) (by simp;omega)).trans hcells.2.1,(t.cell (p:=⟨w5.heap.size,_,none⟩) hcs (by simp;omega)).trans hcells.2.2.1,(t.cell (p:=⟨w5.heap.size,_,none⟩) hcs (by simp;omega)).trans hcells.2.2.2⟩)
  have HS0:=Lib.hid (Touch.refl [w.heap.size+1+1,w.heap.size+1+1+1] c).drew
  have hr:=(HC _ HBc.out).out
  have r0:=hr.2.2.2.2.1
  have r1:=hr.2.2.2.2.2.1
  have r2:=hr.2.2.2.2.2.2.1
  have r3:=hr.2.2.2.2.2.2.2
  have f0:=(HFZ _ HBc.out).out.1
  have f1:=(HFZ _ HBc.out).out.2
  clear hc hBc hcells hcs hr hfb hz0 hz1 hz2
  clear q12_0 q12_1 q12_2 q12_3 q12_4 q12_5 q12_6 q12_7 q12_8 q12_9 q12_10 q12_11 q12_12 q12_13 r12_0 r12_1 r12_2 r12_3 r12_4 r12_5
  refine wp_region_noPanic ?_
  refine wp_region_par3 7 7 (by kernel_rfl) (by kernel_rfl) (by simp) (by omega) (by kernel_rfl) (by kernel_rfl) (fun w':World=>Touch [w.heap.size+1+1,w.heap.size+1+1+1] c w') ?_
  refine par3_move (v:= ?_) 0 (by simp only[zga,zgb,zgc];rfl) (by kernel_rfl) (by rfl) ?_ (fun _ _ _ h=>h) ?_
  rotate_left
  ·(intro w9;go_simp;try with_reducible rfl)
  simp only[Act.put,zpa,zpb,zpc]
  refine par3_read (v:= ?_) 1 (by simp only[zga,zgb,zgc];rfl) (by kernel_rfl) (by rfl) HS0.out ?_ (fun _ _ _ h=>h) ?_
  rotate_left
  ·(intro w9 hSw;obtain⟨y0,y1,y2,y3⟩:=(HY w9 hSw).out;clear hSw;go_simp;try with_reducible rfl)
  simp only[Act.put,zpa,zpb,zpc]
  refine par3_move (v:= ?_) 2 (by simp only[zga,zgb,zgc];rfl) (by kernel_rfl) (by rfl) ?_ (fun _ _ _ h=>h) ?_
  rotate_left
  ·(intro w9;go_simp;try with_reducible rfl)
  simp only[Act.put,zpa,zpb,zpc]
  refine par3_read (v:= ?_) 3 (by simp only[zga,zgb,zgc];rfl) (by kernel_rfl) (by rfl) HS0.out ?_ (fun _ _ _ h=>h) ?_
  rotate_left
  ·(intro w9 hSw;obtain⟨y0,y1,y2,y3⟩:=(HY w9 hSw).out;clear hSw;go_simp;try with_reducible rfl)
  simp only[Act.put,zpa,zpb,zpc]
  refine par3_move (v:= ?_) 4 (by simp only[zga,zgb,zgc];rfl) (by kernel_rfl) (by rfl) ?_ (fun _ _ _ h=>h) ?_
  rotate_left
  ·(intro w9;go_simp;try with_reducible rfl)
  simp only[Act.put,zpa,zpb,zpc]
  refine par3_one 5 (by simp only[zga,zgb,zgc];rfl) (by kernel_rfl) (by rfl) ?_
  refine owp_skip (w1:= ?_) ?_ ?_
  rotate_left
  ·(go_simp;first|rfl|(constructor<;>rfl))
  refine⟨fun s _=>(s.setCell (.inl (by simp)) _).setCell (.inl (by simp)) _, ?_⟩
  simp only[Act.put,zpa,zpb,zpc]
  refine par3_one 6 (by simp only[zga,zgb,zgc];rfl) (by kernel_rfl) (by rfl) ?_
  refine owp_skip (w1:= ?_) ?_ ?_
  rotate_left
  ·(go_simp;first|rfl|(constructor<;>rfl))
  refine⟨fun s _=>(s.setCell (.inl (by simp)) _).setCell (.inl (by simp)) _, ?_⟩
  simp only[Act.put,zpa,zpb,zpc]
  refine par3_tail _ (by simp only[List.drop_succ_cons,List.drop_zero];rfl) (by kernel_rfl) ?_
  go_wp2_with fail
  refine NoPanic.normal ?_
  go_wp2_with fail
  refine bodyPost_ret (v:= .tuple #[.agg #[.int .i64 bx, .int .i64 by_], .agg #[.int .i64 ax, .int .i64 ay], .bool ok]) (by simp[results,Try.results58,go_sem, *]) rfl ⟨rfl, ?_⟩
  have h3:Below w.heap.size w c:=HW.out.trans (HBc.out.mono HW.out.size)
  exact((((h3.drew.setCell (by simp;omega) _).setCell (by simp;omega) _).setCell (by simp;omega) _).setCell (by simp;omega) _)
end Go.Proofs.Ythopjhifepijiaa
namespace Go.Proofs.Ythopjhifepijiaa
open Go.RowKit Go.Joins
open Go.Maps (Keyed)
def lnC (x:Pt × Pt):List Value:=[.int .i64 x.1.x, .int .i64 x.1.y, .int .i64 x.2.x, .int .i64 x.2.y]
def LnIn (w:World) (B:Nat) (a:Option Addr) (n:Nat) (l:List (Pt × Pt)):Prop:=n=l.length∧(n=0∨ ∃b off,a=some ⟨b,off,none⟩∧b<B∧ ∀(i:Nat) (x:Pt × Pt),l[i]? =some x→
 w.cell? ⟨b,off+i*4,none⟩=some (.int .i64 x.1.x)∧w.cell? ⟨b,off+i*4+1,none⟩=some (.int .i64 x.1.y)∧w.cell? ⟨b,off+i*4+1+1,none⟩=some (.int .i64 x.2.x)∧w.cell? ⟨b,off+i*4+1+1+1,none⟩=some (.int .i64 x.2.y))
theorem LnIn.below {w w':World} {B:Nat} {a:Option Addr} {n:Nat} {l:List (Pt × Pt)} (h:LnIn w B a n l) (k:Below B w w'):LnIn w' B a n l:=
 ⟨h.1,h.2.imp id (fun⟨b,off,e,hb,hs⟩=>⟨b,off,e,hb,fun i x hx=>⟨(k.cell (p:=⟨b,_,none⟩) hb).trans (hs i x hx).1,(k.cell (p:=⟨b,_,none⟩) hb).trans (hs i x hx).2.1,(k.cell (p:=⟨b,_,none⟩) hb).trans (hs i x hx).2.2.1,(k.cell (p:=⟨b,_,none⟩) hb).trans (hs i x hx).2.2.2⟩⟩)⟩
theorem LnIn.touch {w w':World} {B:Nat} {F:List Nat} {a:Option Addr} {n:Nat} {l:List (Pt × Pt)} (h:LnIn w B a n l) (k:Touch F w w') (hB:B≤w.heap.size) (hF: ∀b∈F,B≤b):LnIn w' B a n l:=h.below (k.below hB hF)
theorem LnIn.mono {w:World} {B B':Nat} {a:Option Addr} {n:Nat} {l:List (Pt × Pt)} (h:LnIn w B a n l) (k:B≤B'):LnIn w B' a n l:=
 ⟨h.1,h.2.imp id (fun⟨b,off,e,hb,hs⟩=>⟨b,off,e,Nat.lt_of_lt_of_le hb k,hs⟩)⟩
theorem LnIn.at_ {w:World} {B:Nat} {a:Option Addr} {n:Nat} {l:List (Pt × Pt)} (h:LnIn w B a n l) {k:Nat} (hk:k<n): ∃b off x,a=some ⟨b,off,none⟩∧b<B∧l[k]? =some x∧
  w.cell? ⟨b,off+k*4,none⟩=some (.int .i64 x.1.x)∧w.cell? ⟨b,off+k*4+1,none⟩=some (.int .i64 x.1.y)∧w.cell? ⟨b,off+k*4+1+1,none⟩=some (.int .i64 x.2.x)∧w.cell? ⟨b,off+k*4+1+1+1,none⟩=some (.int .i64 x.2.y):=by
 obtain⟨h1,h2|⟨b,off,e,hb,hs⟩⟩:=h
 ·omega
 ·have hx:=List.getElem?_eq_getElem (l:=l) (i:=k) (by omega)
  exact⟨b,off,_,e,hb,hx,hs k _ hx⟩
theorem lnIn_of_own {w:World} {base n c:Nat} {t:TypeId} {a:Option Addr} {l:List (Pt × Pt)} (h:w.ownsRow base t 4 (.slice a n c) n (l.flatMap lnC)) (hn:n=l.length):LnIn w w.heap.size a n l:=by
 refine⟨hn, ?_⟩
 rcases Nat.eq_zero_or_pos n with h0|h0
 ·exact .inl h0
 ·obtain⟨g,cap,e⟩:=ownsRow_form h h0
  injection e with e1 e2 e3
  subst e1
  refine .inr ⟨g,0,rfl,(h.lt g rfl).2,fun i v hv=> ?_⟩
  have hc:=fun j u (hu:(lnC v)[j]? =some u)=>(addr_add0 g (i*4+j))▸h.cells (g:=g) rfl (j:=i*4+j) (u:=u) (flatMap_get (n:=4) (fun _=>rfl) l i j v u hv hu)
  simp only[Nat.zero_add]
  exact⟨hc 0 _ rfl,hc 1 _ rfl,hc 2 _ rfl,hc 3 _ rfl⟩
theorem Try.infoPp:(Try.prog.info? 156).map (fun i=>(i.zero,i.size,i.bytes))=some (some (.agg #[.int .i64 0, .int .i64 0, .int .i64 0, .int .i64 0]),4,32):=by kernel_rfl
def knownB (p:PL) (R:List Hf):Bool:=R.all fun h=>hasE p.es h.edge
def PtsPost (p:PL) (w:World) (R:List Hf) (e:Ending) (w':World):Prop:=(∃a c,rightB p=true∧knownB p R=true∧e= .returned (.tuple #[.slice a R.length c, .bool true])∧w'.ownsRow w.heap.size 156 4 (.slice a R.length c) R.length ((R.map (endsP p)).flatMap lnC)∧Below w.heap.size w w')∨
 ((rightB p=false∨knownB p R=false)∧e= .returned (.tuple #[.slice none 0 0, .bool false])∧Below w.heap.size w w')
structure PtsS (W wr:World) (p:PL) (R:List Hf) (k:Nat) (v:Value):Prop where
 own:wr.ownsRow W.heap.size 156 4 v k (((R.take k).map (endsP p)).flatMap lnC)
 kn: ∀x∈R.take k,hasE p.es x.edge=true
 below:Below W.heap.size W wr
set_option maxRecDepth 100000 in
set_option maxHeartbeats 4000000 in
theorem points_any {w:World} {B vn vc en ec n c:Nat} {va ea a:Option Addr} {p:PL} {R:List Hf} (hv:VsIn w B va vn p.vs) (he:EsIn w B ea en p.es) (hr:HsIn w B a n R) (hB:B≤w.heap.size) (hn:vn≤100000) (hm:en≤100000) (hec:en≤ec) (hfit:FitPL p) (hl:n≤100000):
  Calls Try.prog 43 #[.agg #[.slice va vn vc, .slice ea en ec], .slice a n c] w (PtsPost p w R):=by
 have HRT:=fun(W:World) (hb:Below w.heap.size w W)=>Lib.hid (right_any (w:=W) (vc:=vc) (hv.below (hb.mono hB)) (he.below (hb.mono hB)) (Nat.le_trans hB hb.size) hn hm hec hfit)
 have HEN:=fun(W:World) (hb:Below w.heap.size w W) (h:Hf)=>Lib.hid (rends_any (w:=W) (vc:=vc) (ec:=ec) (hv.below (hb.mono hB)) (he.below (hb.mono hB)) (Nat.le_trans hB hb.size) hn hm h)
 have HRS:=fun(W:World) (hb:Below w.heap.size w W)=>Lib.hid (hr.below (hb.mono hB))
 have HRL:=Lib.hid hr.1
 obtain⟨i0,hi,hz0,hz1,hz2⟩:=info_parts Try.infoPp
 clear hv he hr hfit
 cases hrb:rightB p
 ·rw[hrb] at HRT
  have HRB:=Lib.hid hrb
  clear hrb
  go_enter Try.func43,Try.ntmps43
  go_wp2_with fail
  first|refine wp_name (fun W hW=> ?_)|refine calls_name (fun W hW=> ?_)
  have HW:Hid (Below w.heap.size w W):=Lib.hid (by rw[←hW];repeat (first|exact Below.refl _ _|refine below_alloc ?_))
  have HWs:Hid (W.heap.size=w.heap.size+1):=Lib.hid (by rw[←hW];simp)
  have HBW:Hid (W.heap.size≤W.heap.size):=Lib.hid (by have:=HWs.out;omega)
  have HC:=fun(W1:World) (hb:Below (W.heap.size) W W1)=>Lib.hid (show W1.cell? ⟨w.heap.size,0,none⟩=some (.slice va vn vc)∧W1.cell? ⟨w.heap.size,1,none⟩=some (.slice ea en ec) from by exact⟨(hb.cell (p:=⟨w.heap.size,0,none⟩) (by show w.heap.size<W.heap.size;have:=HWs.out;omega)).trans (by rw[←hW];clear hW;go_simp),(hb.cell (p:=⟨w.heap.size,1,none⟩) (by show w.heap.size<W.heap.size;have:=HWs.out;omega)).trans (by rw[←hW];clear hW;go_simp)⟩)
  have HB:=Lib.hid (Below.refl (W.heap.size) W)
  clear hW
  obtain⟨q1_0,q1_1⟩:=(HC _ HB.out).out
  have r1_0:=Nat.lt_of_lt_of_le (show w.heap.size<W.heap.size by have:=HWs.out;omega) HB.out.size
  refine((HRT _ HW.out).out).mono ?_
  rintro e w2 ⟨rfl,hb2⟩
  have HB:=Lib.hid (below_next (below_next HB.out (Nat.le_trans HBW.out HB.out.size) (by repeat (first|exact Below.refl _ _|refine below_alloc ?_))) (by first|exact(Nat.le_trans HBW.out HB.out.size)|(simp;done)|(have h1:=HBW.out;have h2:=HB.out.size;simp;omega)) hb2)
  clear q1_0 q1_1 r1_0
  obtain⟨q2_0,q2_1⟩:=(HC _ HB.out).out
  clear hb2
  have r2_0:=Nat.lt_of_lt_of_le (show w.heap.size<W.heap.size by have:=HWs.out;omega) HB.out.size
  go_wp2_with fail
  go_ret2
  exact .inr ⟨.inl HRB.out,rfl,HW.out.trans (HB.out.mono HW.out.size)⟩
 ·rw[hrb] at HRT
  have HRB:=Lib.hid hrb
  clear hrb
  go_enter Try.func43,Try.ntmps43
  go_wp2_with fail
  first|refine wp_name (fun W hW=> ?_)|refine calls_name (fun W hW=> ?_)
  have HW:Hid (Below w.heap.size w W):=Lib.hid (by rw[←hW];repeat (first|exact Below.refl _ _|refine below_alloc ?_))
  have HWs:Hid (W.heap.size=w.heap.size+1):=Lib.hid (by rw[←hW];simp)
  have HBW:Hid (W.heap.size≤W.heap.size):=Lib.hid (by have:=HWs.out;omega)
  have HC:=fun(W1:World) (hb:Below (W.heap.size) W W1)=>Lib.hid (show W1.cell? ⟨w.heap.size,0,none⟩=some (.slice va vn vc)∧W1.cell? ⟨w.heap.size,1,none⟩=some (.slice ea en ec) from by exact⟨(hb.cell (p:=⟨w.heap.size,0,none⟩) (by show w.heap.size<W.heap.size;have:=HWs.out;omega)).trans (by rw[←hW];clear hW;go_simp),(hb.cell (p:=⟨w.heap.size,1,none⟩) (by show w.heap.size<W.heap.size;have:=HWs.out;omega)).trans (by rw[←hW];clear hW;go_simp)⟩)
  have HB:=Lib.hid (Below.refl (W.heap.size) W)
  clear hW
  obtain⟨q3_0,q3_1⟩:=(HC _ HB.out).out
  have r3_0:=Nat.lt_of_lt_of_le (show w.heap.size<W.heap.size by have:=HWs.out;omega) HB.out.size
  refine((HRT _ HW.out).out).mono ?_
  rintro e w1 ⟨rfl,hb4⟩
  have HB:=Lib.hid (below_next (below_next HB.out (Nat.le_trans HBW.out HB.out.size) (by repeat (first|exact Below.refl _ _|refine below_alloc ?_))) (by first|exact(Nat.le_trans HBW.out HB.out.size)|(simp;done)|(have h1:=HBW.out;have h2:=HB.out.size;simp;omega)) hb4)
  clear q3_0 q3_1 r3_0
  obtain⟨q4_0,q4_1⟩:=(HC _ HB.out).out
  clear hb4
  have r4_0:=Nat.lt_of_lt_of_le (show w.heap.size<W.heap.size by have:=HWs.out;omega) HB.out.size
  go_wp2_with fail
  have HX1:=Lib.hid (show W.heap.size≤w1.heap.size from HB.out.size)
  clear q4_0 q4_1 r4_0
  go_loopw [6,17] (fun o i wr=> ∃(k:Nat) (ov:Value),k≤n∧i= .int .i64 k∧ov=o∧PtsS W wr p R k ov) (fun _ i _=>n - (intOf i).toNat)
  case atStart=>exact⟨0,_,Nat.zero_le _,rfl,rfl,World.ownsRow_nil _ _ _ _,fun x hx=>by simp at hx,HB.out⟩
  case round=>
   clear HB
   obtain⟨k,ov,hk,rfl,rfl,hI⟩:=hrel
   have HI:=Lib.hid hI
   have HB:=Lib.hid hI.below
   clear hI
   obtain⟨q5_0,q5_1⟩:=(HC _ HB.out).out
   have r5_0:=Nat.lt_of_lt_of_le (show w.heap.size<W.heap.size by have:=HWs.out;omega) HB.out.size
   by_cases hlt:k<n
   ·have HXW:=Lib.hid (HW.out.trans (HB.out.mono HW.out.size))
    obtain⟨rb,roff,x,rfl,hrb,hx,c0,c1⟩:=(HRS _ HXW.out).out.at_ hlt
    have HXK:=Lib.hid hx
    have hrw:rb<wr.heap.size:=by have:=HXW.out.size;omega
    have HE2:=fun(W1:World) (hb:Below wr.heap.size wr W1)=>HEN W1 (below_step hb HXW.out) x
    have HTK:=Lib.hid (take_snoc' hx)
    cases hke:hasE p.es x.edge
    ·have F:=Lib.hid (show knownB p R=false from by
      unfold knownB
      rw[List.all_eq_false]
      exact⟨x,List.mem_of_getElem? hx,by rw[hke];decide⟩)
     rw[hke] at HE2
     clear hx hke
     go_wp2_with fail
     refine(HE2 _ (below_alloc (Below.refl _ _))).out.mono ?_
     rintro e w3 ⟨rfl,hb3⟩
     have HB3:=Lib.hid (below_step hb3 (below_alloc (Below.refl wr.heap.size wr)))
     clear hb3
     go_wp2_with fail
     go_ret2
     refine .inr ⟨.inr F.out,rfl, ?_⟩
     exact below_alloc (below_alloc (below_step HB3.out HXW.out))
    ·have HKE:=Lib.hid hke
     rw[hke] at HE2
     clear hx hke
     obtain⟨⟨⟨ax,ay⟩,⟨bx,by_⟩⟩,hep⟩: ∃q,q=endsP p x:=⟨_,rfl⟩
     have HEP:=Lib.hid hep
     rw[←hep] at HE2
     simp only[ptV] at HE2
     clear hep
     go_wp2_with fail
     refine(HE2 _ (below_alloc (Below.refl _ _))).out.mono ?_
     rintro e w3 ⟨rfl,hb3⟩
     have HB3:=Lib.hid (below_step hb3 (below_alloc (Below.refl wr.heap.size wr)))
     clear hb3
     go_wp2_with (at_builtin;go_loud (refine wpList_append_near _ rfl (.tmp 30) (.tmp 34) 106 rfl W.heap.size 156 i0 (.agg #[.int .i64 0, .int .i64 0, .int .i64 0, .int .i64 0]) 4 32 Try.underlying106 hi hz0 hz1 hz2 rfl (by decide) ov k _ rfl ((((ownsRow_touch HI.out.own (Touch.of_below (F:=[]) HB3.out) (by simp)).alloc _).alloc _).alloc _) ⟨w3.heap.size+1+1,0,none⟩ 1 1 [.int .i64 ax, .int .i64 ay, .int .i64 bx, .int .i64 by_] rfl (by decide) rfl ?c1 (by simp[Value.oneCell']) (by unfold maxLen;omega) (by omega) ?c5 ?_))
     case c1=>exact cell_list_at _ [.int .i64 ax, .int .i64 ay, .int .i64 bx, .int .i64 by_] _ (by simp)
     case c5=>have:=HI.out.below.size;have:=HB3.out.size;simp;omega
     intro g cap w5 hown hgr hat
     have hb4:Below wr.heap.size wr (((w3.alloc (.cells #[.int .i64 ax, .int .i64 ay] 51)).alloc (.cells #[.int .i64 bx, .int .i64 by_] 51)).alloc (.cells #[.int .i64 ax, .int .i64 ay, .int .i64 bx, .int .i64 by_] 156)):=below_alloc (below_alloc (below_alloc HB3.out))
     have HN:=Lib.hid (show PtsS W w5 p R (k+1) (.slice (some ⟨g,0,none⟩) (k+1) cap) from by
      refine⟨?_, ?_, ?_⟩
      ·rw[HTK.out,List.map_append,List.flatMap_append]
       show w5.ownsRow _ _ _ _ _ (_++([endsP p x].flatMap lnC))
       rw[←HEP.out,List.map_take]
       exact hown
      ·intro y hy
       rw[HTK.out] at hy
       rcases List.mem_append.1 hy with hy|hy
       ·exact HI.out.kn y hy
       ·simp at hy;subst hy;exact HKE.out
      ·exact(HI.out.below.trans (hb4.mono HI.out.below.size)).grown hgr (Nat.le_trans HI.out.below.size hb4.size) (fun q hq=>(HI.out.own.lt q hq).1))
     clear hown hgr hat hb4
     go_wp2_with fail
     go_roundw
     case rel=>exact⟨k+1,_,by omega,by go_num,rfl,HN.out⟩
     case measure=>simp[intOf];omega
   ·obtain rfl:k=n:=by omega
    obtain⟨oa,oc,rfl⟩:=own_form HI.out.own
    go_wp2_with fail
    go_ret2
    have hk:=HRL.out
    subst hk
    have h1:=HI.out.own
    have h2:=HI.out.kn
    rw[List.take_length] at h1 h2
    exact .inl ⟨oa,oc,HRB.out,List.all_eq_true.2 h2,rfl,ownsRow_le h1 HW.out.size,HW.out.trans (HB.out.mono HW.out.size)⟩
end Go.Proofs.Ythopjhifepijiaa
namespace Go.Proofs.Ythopjhifepijiaa
theorem all_range_ints: ∀(xs ys:List Int),xs.length=ys.length→((List.range xs.length).all fun i=>xs.getD i 0==ys.getD i 0)=(xs==ys)
 | [],[],_=>rfl
 |x::xs,y::ys,h=>by
  have ih:=all_range_ints xs ys (by simpa using h)
  rw[List.length_cons,List.range_succ_eq_map,List.all_cons,List.all_map]
  simp only[List.getD_cons_zero,Function.comp_def,List.getD_cons_succ,ih]
  simp[List.cons_beq_cons]
 | [],_::_,h=>by simp at h
 |_::_,[],h=>by simp at h
section
variable {P:Program} (w:World)
theorem equalIn_ints (d:Nat) (t e:TypeId) (n:Nat) (q:IntKind) (ht:P.underlying t=some (.array n e)) (he:P.underlying e=some (.int q)) (hsz: ∀w,(sizeOf e).run P w= .ok 1 w)
  (xs ys:List Int) (hx:xs.length=n) (hy:ys.length=n):
  (Op.equalIn (d+2) t (.agg (xs.map (Value.int q)).toArray) (.agg (ys.map (Value.int q)).toArray)).run P w= .ok (xs==ys) w:=by
 rw[←all_range_ints xs ys (hx.trans hy.symm),hx,List.range_eq_range',Op.equalIn]
 simp only[Sem.run_bind,run_underlying ht,Result.andThen_ok,hsz,Std.Legacy.Range.forIn_eq_forIn_range',Std.Legacy.Range.size,Nat.sub_zero,Nat.add_sub_cancel,Nat.div_one]
 have hl: ∀i∈List.range' 0 n 1,i<n:=fun i hi=>by simpa using (List.mem_range'_1.1 hi).2
 generalize List.range' 0 n 1=l at hl ⊢
 induction l with
 |nil=>simp
 |cons i l ih=>
  have hi:i<n:=hl i (by simp)
  have px:(part e (xs.map (Value.int q)).toArray (i*1)).run P w= .ok (.int q (xs.getD i 0)) w:=by
   simp[part,isAgg,run_underlying he,List.getD,List.getElem?_eq_getElem (show i<xs.length by omega)]
  have py:(part e (ys.map (Value.int q)).toArray (i*1)).run P w= .ok (.int q (ys.getD i 0)) w:=by
   simp[part,isAgg,run_underlying he,List.getD,List.getElem?_eq_getElem (show i<ys.length by omega)]
  have pe:(Op.equalIn (d+1) e (.int q (xs.getD i 0)) (.int q (ys.getD i 0))).run P w= .ok (xs.getD i 0==ys.getD i 0) w:=run_equalIn_int w d e q q _ _ he
  simp only[List.forIn_cons,Sem.run_bind,px,py,pe,Result.andThen_ok,List.all_cons]
  cases hb:(xs.getD i 0==ys.getD i 0)
  ·simp
  ·simp only[Bool.not_true,Bool.false_eq_true,if_false,Sem.run_pure,Result.andThen_ok,Bool.true_and]
   exact ih fun j hj=>hl j (by simp[hj])
theorem eql_ints (t e:TypeId) (n:Nat) (q:IntKind) (ht:P.underlying t=some (.array n e)) (he:P.underlying e=some (.int q)) (hsz: ∀w,(sizeOf e).run P w= .ok 1 w)
  (xs ys:List Int) (hx:xs.length=n) (hy:ys.length=n):
  (binOp .eql t (.agg (xs.map (Value.int q)).toArray) (.agg (ys.map (Value.int q)).toArray)).run P w= .ok (.bool (xs==ys)) w:=by
 rw[run_eql_struct,equalIn_ints w 9998 t e n q ht he hsz xs ys hx hy]
 rfl
end
end Go.Proofs.Ythopjhifepijiaa
