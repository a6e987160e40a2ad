/- Lemmas on the way to the statement. -/
import Derived.Test.YthopjhifepijiaaJ13
import Derived.Test.YthopjhifepijiaaJ15
set_option linter.unusedSimpArgs false
set_option linter.unusedVariables false
namespace Go.Proofs.Ythopjhifepijiaa
open Go.RowKit Go.Joins
open Go.Maps (Keyed)
theorem Try.infoFa:(Try.prog.info? 83).map (fun i=>(i.zero,i.size,i.bytes))=some (some (.agg #[.int .i64 0, .int .i64 0]),2,16):=by kernel_rfl
theorem side_any (w:World) (e:Int) (b:Bool) (v:Int) (hv:(b=false∧v=0)∨(b=true∧v=1)):Calls Try.prog 64 #[.agg #[.int .i64 e, .bool b]] w fun x w'=>x= .returned (.int .i64 v)∧Below w.heap.size w w':=by
 go_enter Try.func64,Try.ntmps64
 have hb:=(Below.refl w.heap.size w).alloc (Nat.le_refl _) (.cells #[.int .i64 e, .bool b] 45)
 rcases hv with ⟨rfl,rfl⟩|⟨rfl,rfl⟩
 all_goals
  have HB:=Lib.hid hb
  clear hb
  go_wp2_with fail
  go_ret
  exact⟨rfl,HB.out⟩
def DrPost (p:PL) (w:World) (e:Ending) (w':World):Prop:=(∃(lv le lf k:Int) (V E F:Value),e= .returned (.tuple #[.agg #[.int .i64 lv, .int .i64 le, .int .i64 lf,V,E,F], .int .i64 k])∧((k=1∧V= .slice none 0 0∧E= .slice none 0 0∧F= .slice none 0 0)∨(k=0∧fitI lv∧fitI le∧(0≤lf∧lf≤5000)∧ ∃lo vs es fs,w.heap.size≤lo∧DrT p w' lo V E F vs es fs)))∧Below w.heap.size w w'
set_option maxRecDepth 100000 in
set_option maxHeartbeats 16000000 in
theorem draw_any {w:World} {B vn vc en ec:Nat} {va ea:Option Addr} {p:PL} (r:RightP p) (hv:VsIn w B va vn p.vs) (he:EsIn w B ea en p.es) (hB:B≤w.heap.size) (n1:vn≤100) (n2:en≤100) (hec:en≤ec) (hfit:FitPL p):
  Calls Try.prog 29 #[.agg #[.slice va vn vc, .slice ea en ec], .slice none 0 0] w (DrPost p w):=by
 have HRT:=fun(W:World) (hb:Below w.heap.size w W)=>Lib.hid (show Calls Try.prog 12 #[.agg #[.slice va vn vc, .slice ea en ec]] W fun e w'=>e= .returned (.bool true)∧Below W.heap.size W w' from by
  have:=right_any (w:=W) (vc:=vc) (hv.below (hb.mono hB)) (he.below (hb.mono hB)) (Nat.le_trans hB hb.size) (by omega) (by omega) hec hfit
  rw[rightB_iff.2 r] at this
  exact this)
 have HLK:=fun(W:World) (hb:Below w.heap.size w W)=>Lib.hid (links_any (w:=W) (vc:=vc) (ec:=ec) r (hv.below (hb.mono hB)) (he.below (hb.mono hB)) (Nat.le_trans hB hb.size) hec hfit)
 have HRE:=fun(W:World) (hb:Below w.heap.size w W)=>Lib.hid (Realms_any (w:=W) (vc:=vc) (ec:=ec) r (hv.below (hb.mono hB)) (he.below (hb.mono hB)) (Nat.le_trans hB hb.size) hec hfit)
 have HV:=Lib.hid hv
 have HE:=Lib.hid he
 have HFT:=Lib.hid hfit
 have HR:=Lib.hid r
 have hmm:= @run_makeMap Try.prog
 obtain⟨i0,hi,hz0,hz1,hz2⟩:=info_parts Try.infoFa
 obtain⟨j0,hj0,hy0,hy1,hy2⟩:=info_parts Try.infoHs
 obtain⟨l0,hl0,hl1,hl2,hl3⟩:=info_parts Try.infoVR
 obtain⟨m0,hm0,hm1,hm2,hm3⟩:=info_parts Try.infoER
 clear hv he hfit r
 go_enter Try.func29,Try.ntmps29
 go_wp2_with fail
 first|refine wp_name (fun W hW=> ?_)|refine calls_name (fun W hW=> ?_)
 have HW:Hid (Below w.heap.size w W):=Lib.hid (by rw[←hW];repeat (first|exact Below.refl _ _|refine below_alloc ?_))
 have HWs:Hid (W.heap.size=w.heap.size+1+1):=Lib.hid (by rw[←hW];simp)
 have HBW:Hid (W.heap.size≤W.heap.size):=Lib.hid (by have:=HWs.out;omega)
 have HC:=fun(W1:World) (hb:Below (W.heap.size) W W1)=>Lib.hid (show W1.cell? ⟨w.heap.size,0,none⟩=some (.slice va vn vc)∧W1.cell? ⟨w.heap.size,1,none⟩=some (.slice ea en ec)∧W1.cell? ⟨w.heap.size+1,0,none⟩=some (.int .i64 0)∧W1.cell? ⟨w.heap.size+1,1,none⟩=some (.int .i64 0)∧W1.cell? ⟨w.heap.size+1,2,none⟩=some (.int .i64 0)∧W1.cell? ⟨w.heap.size+1,3,none⟩=some (.slice none 0 0)∧W1.cell? ⟨w.heap.size+1,4,none⟩=some (.slice none 0 0)∧W1.cell? ⟨w.heap.size+1,5,none⟩=some (.slice none 0 0) from by have hs:=HWs.out;refine⟨?_, ?_, ?_, ?_, ?_, ?_, ?_, ?_⟩<;>(refine(hb.cell (by dsimp only;omega)).trans ?_;rw[←hW];clear hW;go_simp))
 have HB:=Lib.hid (Below.refl (W.heap.size) W)
 have HZ:=fun(W1:World) (hb:W.heap.size≤W1.heap.size)=>Lib.hid (show w.heap.size<W1.heap.size∧w.heap.size+1<W1.heap.size from by have:=HWs.out;refine⟨?_, ?_⟩<;>omega)
 obtain⟨qx0,qx1,qx2,qx3,qx4,qx5,qx6,qx7⟩:=(HC _ HB.out).out
 obtain⟨rx0,rx1⟩:=(HZ _ HB.out.size).out
 have HFZ:=fun(W1:World) (hb:Below W.heap.size W W1)=>Lib.hid (show∀j,W1.frozen? ⟨w.heap.size+1,j,none⟩=false from fun j=>(hb.frozen (p:=⟨w.heap.size+1,j,none⟩) (by have:=HWs.out;show w.heap.size+1<_;omega)).trans (by rw[←hW];clear hW;go_simp))
 clear hW
 refine((HRT _ HW.out).out).mono ?_
 rintro e w2 ⟨rfl,hb2⟩
 have HB:=bnx HB HBW hb2
 clear qx0 qx1 qx2 qx3 qx4 qx5 qx6 qx7 rx0 rx1
 obtain⟨qx0,qx1,qx2,qx3,qx4,qx5,qx6,qx7⟩:=(HC _ HB.out).out
 clear hb2
 obtain⟨rx0,rx1⟩:=(HZ _ HB.out.size).out
 go_wp2_with fail
 refine((containsE _ _)).mono ?_
 rintro e w3 ⟨rfl,hb3⟩
 have HB:=bnx HB HBW hb3
 clear qx0 qx1 qx2 qx3 qx4 qx5 qx6 qx7 rx0 rx1
 obtain⟨qx0,qx1,qx2,qx3,qx4,qx5,qx6,qx7⟩:=(HC _ HB.out).out
 have HXC:=Lib.hid (show True from trivial)
 clear hb3
 obtain⟨rx0,rx1⟩:=(HZ _ HB.out.size).out
 have HX2:=Lib.hid (HW.out.trans (HB.out.mono HW.out.size))
 go_wp2_with fail
 refine(HLK _ HX2.out).out.mono ?_
 rintro e wl ⟨⟨b1,b2,nl,rfl,hl1,hl2,hl12,hm1,hm2⟩,hbl⟩
 have HB:=Lib.hid (bnl HB HBW hbl)
 have HM1:=Lib.hid hm1
 have HM2:=Lib.hid hm2
 have HXL:=Lib.hid (below_step hbl HX2.out)
 clear hl1 hl2 hl12 hm1 hm2 hbl
 clear qx0 qx1 qx2 qx3 qx4 qx5 qx6 qx7 rx0 rx1
 obtain⟨qx0,qx1,qx2,qx3,qx4,qx5,qx6,qx7⟩:=(HC _ HB.out).out
 obtain⟨rx0,rx1⟩:=(HZ _ HB.out.size).out
 have rx0_0:=Nat.lt_succ_of_lt rx0
 have rx0_1:=Nat.lt_succ_of_lt rx0_0
 have rx0_2:=Nat.lt_succ_of_lt rx0_1
 have rx1_0:=Nat.lt_succ_of_lt rx1
 have rx1_1:=Nat.lt_succ_of_lt rx1_0
 have rx1_2:=Nat.lt_succ_of_lt rx1_1
 go_wp2_with fail
 first|refine wp_name (fun W2 hW2=> ?_)|refine calls_name (fun W2 hW2=> ?_)
 have HW2:Hid (Below wl.heap.size wl W2):=Lib.hid (by rw[←hW2];repeat (first|exact Below.refl _ _|refine below_alloc ?_))
 have HWs2:Hid (W2.heap.size=wl.heap.size+1+1+1):=Lib.hid (by rw[←hW2];simp)
 skip
 have HC2:=fun(W1:World) (hb:Touch ([wl.heap.size,wl.heap.size+1,wl.heap.size+1+1]) W2 W1)=>Lib.hid (show W1.cell? ⟨w.heap.size,0,none⟩=some (.slice va vn vc)∧W1.cell? ⟨w.heap.size,1,none⟩=some (.slice ea en ec)∧W1.cell? ⟨w.heap.size+1,0,none⟩=some (.int .i64 0)∧W1.cell? ⟨w.heap.size+1,1,none⟩=some (.int .i64 0)∧W1.cell? ⟨w.heap.size+1,2,none⟩=some (.int .i64 0)∧W1.cell? ⟨w.heap.size+1,3,none⟩=some (.slice none 0 0)∧W1.cell? ⟨w.heap.size+1,4,none⟩=some (.slice none 0 0)∧W1.cell? ⟨w.heap.size+1,5,none⟩=some (.slice none 0 0) from by have z0:=HBW.out;have z1:=HB.out.size;have z2:=HW2.out.size;have ho:=(HC W1 ((bnl HB HBW HW2.out).trans (hb.below (by omega) (by intro b hb;simp at hb;omega)))).out;exact ho)
 have HB2:=Lib.hid (Touch.refl ([wl.heap.size,wl.heap.size+1,wl.heap.size+1+1]) W2)
 have HZ2:=fun(W1:World) (hb:W2.heap.size≤W1.heap.size)=>Lib.hid (show w.heap.size<W1.heap.size∧w.heap.size+1<W1.heap.size from by obtain⟨o0,o1⟩:=(HZ _ HB.out.size).out;have h3:=HW2.out.size;have:=HWs2.out;refine⟨?_, ?_⟩<;>omega)
 clear qx0 qx1 qx2 qx3 qx4 qx5 qx6 qx7 rx0 rx1 rx0_0 rx0_1 rx0_2 rx1_0 rx1_1 rx1_2
 obtain⟨qx0,qx1,qx2,qx3,qx4,qx5,qx6,qx7⟩:=(HC2 _ HB2.out).out
 obtain⟨rx0,rx1⟩:=(HZ2 _ HB2.out.size).out
 have HD2:=Lib.hid (show MapT W2 Try.prog 45 wl.heap.size 0 ekH ekI (fun _=>none)∧MapT W2 Try.prog 3 (wl.heap.size+1) 0 ekI ekI (fun _=>none)∧W2.rowIs (wl.heap.size+1+1) 73 6 (tdF 0 0 0 (.slice none 0 0) (.slice none 0 0) (.slice none 0 0)) from by
  rw[←hW2]
  have e1:(wl.alloc (.map #[] 0)).heap.size=wl.heap.size+1:=by simp
  have e2:((wl.alloc (.map #[] 0)).alloc (.map #[] 0)).heap.size=wl.heap.size+1+1:=by simp
  have h1:=MapT.made wl Try.prog 45 ekH ekI
  have h2:=MapT.made (wl.alloc (.map #[] 0)) Try.prog 3 ekI ekI
  rw[e1] at h2
  have h3:=World.rowIs_alloc ((wl.alloc (.map #[] 0)).alloc (.map #[] 0)) #[.int .i64 0, .int .i64 0, .int .i64 0, .slice none 0 0, .slice none 0 0, .slice none 0 0] 73 (tdF 0 0 0 (.slice none 0 0) (.slice none 0 0) (.slice none 0 0)) (fun i hi=>by rcases i with _|_|_|_|_|_|i<;>first|rfl|(simp at hi;omega))
  rw[e2] at h3
  exact⟨(h1.alloc _).alloc _,h2.alloc _,h3⟩)
 have HL2:=Lib.hid (show MapT W2 Try.prog 45 b1 nl ekH ekH (lkN p (ringsP p).flatten)∧MapT W2 Try.prog 45 b2 nl ekH ekH (lkP p (ringsP p).flatten)∧b1<wl.heap.size∧b2<wl.heap.size from by
  have h1:=HM1.out.lt
  have h2:=HM2.out.lt
  rw[←hW2]
  exact⟨((HM1.out.alloc _).alloc _).alloc _,((HM2.out.alloc _).alloc _).alloc _,h1,h2⟩)
 have HX3:=Lib.hid (below_step HW2.out HXL.out)
 have HWL:=Lib.hid HXL.out.size
 clear hW2 HM1 HM2
 refine(HRE _ HX3.out).out.mono ?_
 rintro e w3 ⟨g,ra,rn,rc,rfl,hg,hg0,hrk,hb3⟩
 rw[HR.out.realms_agree hg HR.out.pieceR_fn hg0 (fun id _=>pieceR_no id)] at hrk
 have HRK:=Lib.hid (show RlKp W2.heap.size w3 ra rn (parts18 p) from hrk)
 have HLIM:=Lib.hid (HR.out.lim18 (pieceR p) (-1))
 have HRN:=Lib.hid (show rn=(parts18 p).length from hrk.in_.1)
 have hrnb:rn≤5000:=by
  have h1:=HLIM.out.2
  have h2:rn=(realmsP p (pieceR p) (-1)).length:=hrk.in_.1
  omega
 have HB2:=Lib.hid (HB2.out.trans (Touch.of_below (F:=[]) hb3) (by simp))
 have HX4:=Lib.hid (below_step hb3 HX3.out)
 have HW23:=Lib.hid hb3.size
 have HT3:=Lib.hid (show wl.heap.size+1+1<w3.heap.size from by have h1:=HW23.out;have h2:=HWs2.out;omega)
 have HD3:=Lib.hid (show D0 p w3 w3 wl.heap.size (wl.heap.size+1) (wl.heap.size+1+1) 0 0 [] 0 0 0 (.slice none 0 0) from⟨⟨rowIs_touch HD2.out.2.2 (Touch.of_below (F:=[]) hb3) (by simp),World.ownsRow_nil _ _ _ _,World.ownsRow_nil _ _ _ _,World.ownsRow_nil _ _ _ _,Touch.refl _ _⟩,⟨_,HD2.out.1.below hb3,fun i x hi=>absurd hi (by omega),by simp,fun z v hv=>by cases hv⟩,⟨_,HD2.out.2.1.below hb3,fun z v hv=>by cases hv⟩⟩)
 have HLB:=Lib.hid HL2.out.2.2
 have HL3:=Lib.hid (show MapT w3 Try.prog 45 b1 nl ekH ekH (lkN p (ringsP p).flatten)∧MapT w3 Try.prog 45 b2 nl ekH ekH (lkP p (ringsP p).flatten) from⟨HL2.out.1.below hb3,HL2.out.2.1.below hb3⟩)
 clear hg hg0 hrk hb3 HD2
 clear qx0 qx1 qx2 qx3 qx4 qx5 qx6 qx7 rx0 rx1
 obtain⟨qx0,qx1,qx2,qx3,qx4,qx5,qx6,qx7⟩:=(HC2 _ HB2.out).out
 obtain⟨rx0,rx1⟩:=(HZ2 _ HB2.out.size).out
 go_wp2_with fail
 clear qx0 qx1 qx2 qx3 qx4 qx5 qx6 qx7 rx0 rx1
 go_loopw [48] (fun v wr=> ∃(k:Nat) (lf:Int) (Fv:Value),k≤rn∧v= .int .i64 k∧(0≤lf∧lf≤5000)∧D0 p w3 wr wl.heap.size (wl.heap.size+1) (wl.heap.size+1+1) k k [] (k*1000000000) (k*1000000000) lf Fv) (fun v _=>rn - (intOf v).toNat)
 case atStart=>exact⟨0,_,_,Nat.zero_le _,rfl,⟨by decide,by decide⟩,HD3.out⟩
 case round=>
  clear HD3
  obtain⟨k,lf,F,hk,rfl,hlf,hD⟩:=hrel
  have HLF:=Lib.hid hlf
  obtain⟨wq,rfl⟩: ∃x:World,x=wr:=⟨_,rfl⟩
  have HD:=Lib.hid hD
  have HXQ:=Lib.hid (show Below w.heap.size w wq from HX4.out.trans (hD.dt.tch.below HX4.out.size (by have:=HWL.out;simp;omega)))
  have HB2q:=HB2
  have HB2:=Lib.hid (HB2.out.trans hD.dt.tch (fun b hb=> .inl hb))
  have HW2l:=HWs2.out
  have HQ3:=Lib.hid hD.dt.tch.size
  clear hD hlf
  by_cases hlt:k<rn
  ·skip
   obtain⟨rb,roff,x,oa,oc,ia,ic,la,lc,rfl,hrb,hx,hat⟩:=HRK.out.part (F:=[wl.heap.size,wl.heap.size+1,wl.heap.size+1+1]) (by simp;omega) hlt
   have HXK:=Lib.hid hx
   have hxm:=List.mem_of_getElem? hx
   have HPK:=Lib.hid (HLIM.out.1 x hxm)
   have HPF:=Lib.hid (part_fit HR.out HFT.out (pieceR p) (-1) hxm)
   have HAT:=Lib.hid hat
   have HRB:=Lib.hid hrb
   obtain⟨k0,k1,k2, -, -, -⟩:=hat.wiped HD.out.dt.tch hrb
   obtain⟨fa,fc,rfl⟩:=own_form HD.out.dt.rf
   have htt:wl.heap.size+1+1<wq.heap.size:=Nat.lt_of_lt_of_le HT3.out HQ3.out
   obtain⟨o0,o1,o2,o3,o4,o5⟩:=HD.out.dt.cell
   have ofz:=fun i=>World.rowIs.frozen HD.out.dt.tb i
   have hkb:k≤5000:=by omega
   have hk0: ¬(k:Int)<0:=by omega
   have ht1:=Nat.lt_succ_of_lt htt
   have ht2:=Nat.lt_succ_of_lt ht1
   have hrbq:rb<wq.heap.size:=Nat.lt_of_lt_of_le hrb HQ3.out
   clear hx hat hxm hrb
   go_wp2_with (at_builtin;refine wpList_append_near _ rfl (.tmp 65) (.tmp 67) 71 rfl w3.heap.size 83 i0 (.agg #[.int .i64 0, .int .i64 0]) 2 16 Try.underlying71 hi hz0 hz1 hz2 rfl (by decide) (.slice fa k fc) k ((facesK k).flatMap frC) rfl (((HD.out.dt.rf.alloc _).alloc _).alloc _) ⟨wq.heap.size+1+1,0,none⟩ 1 1 [.int .i64 (k:Int), .int .i64 0] rfl (by decide) rfl (cell_list_at _ [.int .i64 (k:Int), .int .i64 0] _ (by simp)) (by simp[Value.oneCell']) (by unfold maxLen;omega) (by omega) (by have:=HQ3.out;simp;omega) ?_)
   intro g8 cap8 w8 hown hgr hat8
   have HBX:=Lib.hid (show Below wq.heap.size wq (((wq.alloc (.cells #[.slice oa x.outer.length oc, .slice ia x.inner.length ic, .slice la x.alone.length lc] 41)).alloc (.cells #[.int .i64 (k:Int), .int .i64 0] 83)).alloc (.cells #[.int .i64 (k:Int), .int .i64 0] 83)) from below_alloc (below_alloc (below_alloc (Below.refl _ _))))
   have HBR:=Lib.hid (show(((wq.alloc (.cells #[.slice oa x.outer.length oc, .slice ia x.inner.length ic, .slice la x.alone.length lc] 41)).alloc (.cells #[.int .i64 (k:Int), .int .i64 0] 83)).alloc (.cells #[.int .i64 (k:Int), .int .i64 0] 83)).rowIs wq.heap.size 41 3 (reF (.slice oa x.outer.length oc) (.slice ia x.inner.length ic) (.slice la x.alone.length lc)) from World.rowIs.alloc (World.rowIs.alloc (World.rowIs_alloc wq _ 41 _ (fun i hi=>by rcases i with _|_|_|i<;>first|rfl|(simp at hi;omega))) _) _)
   obtain⟨hr8,hd8,G,hG,hGb⟩:=HD.out.face (by have:=HT3.out;omega) HBX.out hown hgr
   have HD8:=Lib.hid hd8
   have HR8:=Lib.hid (rowIs_touch HBR.out hG (fun hm=>by have:=hGb _ hm;omega))
   have f8:=fun i=>World.rowIs.frozen hr8 i
   have v2:w8.cell? ⟨wl.heap.size+1+1,2,none⟩=some (.int .i64 lf):=World.rowIs.cell hr8 (i:=2) (by decide)
   have v5:w8.cell? ⟨wl.heap.size+1+1,5,none⟩=some (.slice fa k fc):=World.rowIs.cell hr8 (i:=5) (by decide)
   clear hr8 hd8 hG hGb hown hgr hat8 o0 o1 o2 o3 o4 o5 ofz k0 k1 k2 HBX HBR
   go_upto_region 15 with fail
   have HW9:=Lib.hid (show wq.heap.size<((w8.setCell ⟨wl.heap.size+1+1,5,none⟩ (.slice (some ⟨g8,0,none⟩) (k+1) cap8)).setCell ⟨wl.heap.size+1+1,2,none⟩ (.int .i64 (k:Int))).heap.size from World.rowIs.lt HR8.out)
   generalize (w8.setCell ⟨wl.heap.size+1+1,5,none⟩ (.slice (some ⟨g8,0,none⟩) (k+1) cap8)).setCell ⟨wl.heap.size+1+1,2,none⟩ (.int .i64 (k:Int))=w9 at HD8 HR8 HW9 ⊢
   clear f8 v2 v5
   have HFL:=Lib.hid (show∀b∈[wl.heap.size,wl.heap.size+1,wl.heap.size+1+1],b<w3.heap.size from by have:=HT3.out;simp;omega)
   obtain⟨M,hM⟩: ∃M,M=(x.outer::x.inner).length:=⟨_,rfl⟩
   have HM:=Lib.hid hM
   have hM2:M=1+x.inner.length:=by rw[hM,List.length_cons,Nat.add_comm]
   have hlim:=HPK.out.inner
   have w90:w9.cell? ⟨wq.heap.size,0,none⟩=some (.slice oa x.outer.length oc):=World.rowIs.cell HR8.out (i:=0) (by decide)
   have w91:w9.cell? ⟨wq.heap.size,1,none⟩=some (.slice ia x.inner.length ic):=World.rowIs.cell HR8.out (i:=1) (by decide)
   have h9:=HW9.out
   go_cut [77,78,79] (fun v77 v78 v79 wx=> ∃g cap,v77= .slice (some ⟨g,0,none⟩) M cap∧v78= .int .i64 M∧v79= .int .i64 0∧HdK [wl.heap.size,wl.heap.size+1,wl.heap.size+1+1] w3 wx g M (x.outer::x.inner)∧Below w9.heap.size w9 wx)
   case first=>
    have HS9:=Lib.hid HD8.out.dt.tch
    have HS93:=Lib.hid HS9.out.size
    rcases Nat.eq_zero_or_pos x.inner.length with h0|h0
    ·have hin:x.inner=[]:=List.eq_nil_of_length_eq_zero h0
     obtain rfl:M=1:=by omega
     have HN0:=Lib.hid (show∀wx:World,Below w9.heap.size w9 wx→wx.ownsRow w3.heap.size 33 1 (.slice (some ⟨w9.heap.size,0,none⟩) 1 1) 1 [.slice oa x.outer.length oc]→HdK [wl.heap.size,wl.heap.size+1,wl.heap.size+1+1] w3 wx w9.heap.size 1 (x.outer::x.inner) from fun wx hb h=>hdK_own h HFL.out (HS9.out.trans (Touch.of_below (F:=[]) hb) (by simp)) HM.out (fun i R hR=>by
      rw[hin] at hR
      rcases i with _|i
      ·simp at hR
       subst hR
       exact⟨oa,oc,rfl,HAT.out.outer⟩
      ·simp at hR))
     rw[h0] at w91
     clear hM2 hin h0 hM
     have HAZ:=fun w' ty=>Lib.hid (run_append_zero (P:=Try.prog) w' 38 ty 33 j0 Try.underlying38 hj0 w9.heap.size 1 1 ia ic (Nat.le_refl _))
     go_wp2_with (at_builtin;go_loud (refine wpList_append_run9 _ rfl (.tmp 74) (.tmp 76) 38 rfl _ _ rfl rfl (HAZ _ _).out ?_))
     go_meet
     refine⟨_,_,rfl,rfl,rfl,HN0.out _ ?_ (own_alloc w9 w3.heap.size 1 1 33 [.slice oa x.outer.length oc] HS93.out rfl (by decide)), ?_⟩
     all_goals exact(Below.refl _ _).alloc (Nat.le_refl _) _
    ·obtain⟨b,off,rfl,hb,Z,hz1,hz2,hz3,hz4⟩:=HAT.out.inner.vals h0
     have hbF:=fun(hz:0<Z.length)=>cell_ne wipe_cell (hz2 0 _ (List.getElem?_eq_getElem hz))
     have HZ2:=Lib.hid hz2
     have HZ3:=Lib.hid hz3
     have HZ4:=Lib.hid hz4
     have HZ1:=Lib.hid hz1
     have HBL:=Lib.hid hb
     have hlimM:M≤5001:=by omega
     have HRO:=Lib.hid (show∀(wx:World) (g cap:Nat),Below w9.heap.size w9 wx→wx.ownsRow w3.heap.size 33 1 (.slice (some ⟨g,0,none⟩) (1+x.inner.length) cap) (1+x.inner.length) ([.slice oa x.outer.length oc]++Z)→HdK [wl.heap.size,wl.heap.size+1,wl.heap.size+1+1] w3 wx g (1+x.inner.length) (x.outer::x.inner) from fun wx g cap hb h=>hdK_own h HFL.out (HS9.out.trans (Touch.of_below (F:=[]) hb) (by simp)) (by rw[List.length_cons,Nat.add_comm]) (fun i R hR=>by
      rcases i with _|i
      ·simp at hR
       subst hR
       exact⟨oa,oc,rfl,HAT.out.outer⟩
      ·obtain⟨a',c',h1,h2⟩:=HZ4.out i R (by simpa using hR)
       exact⟨a',c',by simpa using h1,h2⟩))
     have HM2:=Lib.hid hM2
     have HCZ:=Lib.hid (show∀j u,Z[j]? =some u→(w9.alloc (.cells #[.slice oa x.outer.length oc] 33)).cell? ((⟨b,off,none⟩:Addr).add j)=some u from fun j u hu=>by
      rw[addr_add]
      have hbw:b<w9.heap.size:=Nat.lt_of_lt_of_le HBL.out HS93.out
      have h1:=(wipe_next HS9.out).cell (p:=⟨b,off+j,none⟩) (by rw[wipe_size];exact HBL.out) (hbF (by rw[HZ1.out];exact h0))
      exact(((Below.refl w9.heap.size w9).alloc (Nat.le_refl _) (.cells #[.slice oa x.outer.length oc] 33)).cell (p:=⟨b,off+j,none⟩) hbw).trans (h1.trans (HZ2.out j u hu)))
     clear hM2 hM hz1 hz2 hz3 hz4 hb hbF
     go_wp2_with (at_builtin;go_loud (refine wpList_append_near _ rfl (.tmp 74) (.tmp 76) 38 rfl w3.heap.size 33 j0 (.slice none 0 0) 1 24 Try.underlying38 hj0 hy0 hy1 hy2 rfl (by decide) (.slice (some ⟨w9.heap.size,0,none⟩) 1 1) 1 [.slice oa x.outer.length oc] rfl (own_alloc w9 w3.heap.size 1 1 33 [.slice oa x.outer.length oc] HS93.out rfl (by decide)) ⟨b,off,none⟩ x.inner.length ic Z rfl h0 (by rw[HZ1.out,Nat.mul_one]) HCZ.out HZ3.out (by unfold maxLen;omega) (by omega) (by have:=HS93.out;simp;omega) ?_;intro g9 cap9 w9x hown hgr hat;have HB9:=Lib.hid (((Below.refl w9.heap.size w9).alloc (Nat.le_refl _) (.cells #[.slice oa x.outer.length oc] 33)).grown hgr (by simp) (fun z hz=>by cases hz;exact Nat.le_refl _));have HRG:=Lib.hid (HRO.out _ _ _ HB9.out hown);clear hown hgr hat))
     go_meet
     refine⟨_,_,by rw[HM2.out], ?_,rfl,by rw[HM2.out];exact HRG.out,HB9.out⟩
     rw[HM2.out]
     simp
   case rest=>
   obtain⟨gr,gcap,rfl,rfl,rfl,hdk,hbn⟩:=hcut
   obtain⟨wn,rfl⟩: ∃x:World,x=wc:=⟨_,rfl⟩
   have HDK:=Lib.hid hdk
   have HDN:=Lib.hid (HD8.out.below hbn)
   have HRN9:=Lib.hid (rowIs_touch HR8.out (Touch.of_below (F:=[]) hbn) (by simp))
   have hMb:M≤5001:=by omega
   have HWN:=Lib.hid hbn.size
   clear hdk hbn hM hM2 w90 w91 HD8 HR8
   go_wp2_with fail
   go_loopw [79] (fun v wr=> ∃j:Nat,j≤M∧v= .int .i64 j∧D0 p w3 wr wl.heap.size (wl.heap.size+1) (wl.heap.size+1+1) k (k+1) ((x.outer::x.inner).take j).flatten (k*1000000000+j*100000) (k*1000000000) k (.slice (some ⟨g8,0,none⟩) (k+1) cap8)∧Touch [wl.heap.size,wl.heap.size+1,wl.heap.size+1+1] wn wr) (fun v _=>M - (intOf v).toNat)
   case atStart=>exact⟨0,Nat.zero_le _,rfl,by simpa using HDN.out,Touch.refl _ _⟩
   case round=>
    clear HDN
    obtain⟨j,hj,rfl,hD,ht⟩:=hrel
    obtain⟨wj,rfl⟩: ∃x:World,x=wr:=⟨_,rfl⟩
    have HDJ:=Lib.hid hD
    have HTJ:=Lib.hid ht
    have HWJ:=Lib.hid ht.size
    clear hD ht
    by_cases hlj:j<M
    ·skip
     obtain⟨R,hR⟩: ∃R,(x.outer::x.inner)[j]? =some R:=⟨_,List.getElem?_eq_getElem (by have:=HDK.out.1;omega)⟩
     have HRJ:=Lib.hid hR
     obtain⟨ra,rcp,hrw⟩:=HDK.out.2 j R hR
     have HRM:=Lib.hid (show∀h∈R,h∈hOf x from fun h hh=>by rw[←rings_flat];exact List.mem_flatten.2 ⟨R,List.mem_of_getElem? hR,hh⟩)
     have hmb:=HPK.out.rings R (List.mem_of_getElem? hR)
     have c0:=(hrw wj HTJ.out).1
     have hgj:gr<wj.heap.size:=cell_lt c0
     obtain⟨m,hm⟩: ∃m,m=R.length:=⟨_,rfl⟩
     have HML:=Lib.hid hm
     have HRW:=Lib.hid (show∀W1,Touch [wl.heap.size,wl.heap.size+1,wl.heap.size+1+1] wn W1→HsIn W1 w3.heap.size ra m R from fun W1 hb=>hm▸(hrw W1 hb).2)
     rw[←hm] at c0 hmb
     clear hR hrw hm
     go_wp2_with fail
     go_loopw [85] (fun v wi=> ∃i:Nat,i≤m∧v= .int .i64 i∧D0 p w3 wi wl.heap.size (wl.heap.size+1) (wl.heap.size+1+1) k (k+1) (((x.outer::x.inner).take j).flatten++R.take i) (k*1000000000+j*100000+i) (k*1000000000) k (.slice (some ⟨g8,0,none⟩) (k+1) cap8)∧Touch [wl.heap.size,wl.heap.size+1,wl.heap.size+1+1] wn wi) (fun v _=>m - (intOf v).toNat)
     case atStart=>exact⟨0,Nat.zero_le _,rfl,by simpa using HDJ.out,HTJ.out⟩
     case round=>
      clear HDJ c0 hgj
      obtain⟨i,hi9,rfl,hD,ht⟩:=hrel
      obtain⟨wi,rfl⟩: ∃x:World,x=wr:=⟨_,rfl⟩
      have HDI:=Lib.hid hD
      have HTI:=Lib.hid ht
      clear hD ht
      by_cases hlm:i<m
      ·skip
       obtain⟨h,hh⟩: ∃h,R[i]? =some h:=⟨_,List.getElem?_eq_getElem (by have:=HML.out;omega)⟩
       have HHI:=Lib.hid hh
       have hhx:=HRM.out h (List.mem_of_getElem? hh)
       obtain⟨rb2,roff2,rfl,hrb2,hcc⟩:=(HRW.out wi HTI.out).row9 (by omega)
       obtain⟨c0,c1⟩:=hcc wi (Below.refl _ _) i h hh
       have hri:rb2<wi.heap.size:=cell_lt c0
       have HKH:=Lib.hid (key_h (HPF.out.1 h hhx))
       have HHX:=Lib.hid hhx
       clear hh hhx hcc
       have HDA:=Lib.hid (HDI.out.below (w':=wi.alloc (.cells #[.int .i64 h.edge, .bool h.back] 45)) (below_alloc (Below.refl _ _)))
       have HTA:=Lib.hid (HTI.out.alloc (.cells #[.int .i64 h.edge, .bool h.back] 45))
       obtain⟨g6,hg6,hq6⟩:=HDA.out.mf
       have HG6:=Lib.hid hg6
       have HQ6:=Lib.hid hq6
       clear hg6 hq6
       go_wp2_with (at_mapUpdate;go_loud (refine wpList_update_T _ rfl _ _ _ 114 rfl 45 3 Try.keyHalf Try.underlying114 wl.heap.size (k*1000000000+j*100000+i) ekH ekI g6 HG6.out rfl (by unfold maxLen;omega) h _ rfl HKH.out (ekH_inj _) (k:Int) rfl ?_;intro w6 hm6 hgr6;have HM6:=Lib.hid hm6;have HT6:=Lib.hid (Touch.of_grown hgr6);clear hm6 hgr6))
       go_roundw
       case rel=>
        refine⟨i+1,by omega,by go_num, ?_,HTA.out.trans HT6.out (by simp)⟩
        rw[take_snoc' HHI.out, ←List.append_assoc]
        exact(HDA.out.half HR.out HXK.out HHX.out (by omega) (by have:=HT3.out;omega) HT6.out HQ6.out HM6.out).more (by omega) (Nat.le_refl _)
       case measure=>simp[intOf];omega
      ·go_wp2_with fail
       go_roundw
       case rel=>
        refine⟨j+1,by omega,by go_num, ?_,HTI.out⟩
        have h9:=HDI.out
        rw[List.take_of_length_le (l:=R) (by have:=HML.out;omega)] at h9
        rw[take_snoc' HRJ.out,List.flatten_append,List.flatten_singleton]
        exact h9.more (by omega) (Nat.le_refl _)
       case measure=>simp[intOf];omega
    ·skip
     have HDJ:=Lib.hid (show D0 p w3 wj wl.heap.size (wl.heap.size+1) (wl.heap.size+1+1) k (k+1) (hOf x) (k*1000000000+600000000) (k*1000000000) k (.slice (some ⟨g8,0,none⟩) (k+1) cap8) from by
      have h9:=HDJ.out
      rw[List.take_of_length_le (l:=x.outer::x.inner) (by have:=HDK.out.1;omega),rings_flat] at h9
      exact h9.more (by omega) (Nat.le_refl _))
     have hrq:=rowIs_touch HRN9.out HTJ.out (by have h1:=HQ3.out;have h2:=HT3.out;simp;omega)
     have HRQ:=Lib.hid hrq
     have r2:wj.cell? ⟨wq.heap.size,2,none⟩=some (.slice la x.alone.length lc):=World.rowIs.cell hrq (i:=2) (by decide)
     have hqj:wq.heap.size<wj.heap.size:=World.rowIs.lt hrq
     obtain⟨m,hm⟩: ∃m,m=x.alone.length:=⟨_,rfl⟩
     have HML:=Lib.hid hm
     have hma:=HPK.out.alone
     rw[←hm] at r2 hma
     have HAL:=Lib.hid (show∀W1,Touch [wl.heap.size,wl.heap.size+1,wl.heap.size+1+1] w3 W1→NsIn W1 w3.heap.size la m x.alone from fun W1 t=>hm▸(HAT.out.wiped t HRB.out).alone)
     clear hrq hm
     go_wp2_with fail
     go_loopw [97] (fun v wr=> ∃i:Nat,i≤m∧v= .int .i64 i∧D0 p w3 wr wl.heap.size (wl.heap.size+1) (wl.heap.size+1+1) k (k+1) (hOf x) (k*1000000000+600000000) (k*1000000000+i) k (.slice (some ⟨g8,0,none⟩) (k+1) cap8)) (fun v _=>m - (intOf v).toNat)
     case atStart=>exact⟨0,Nat.zero_le _,rfl,HDJ.out.more (Nat.le_refl _) (by omega)⟩
     case round=>
      clear HDJ r2 hqj HTJ HWJ
      obtain⟨i,hi9,rfl,hD⟩:=hrel
      obtain⟨wi,rfl⟩: ∃x:World,x=wr:=⟨_,rfl⟩
      have HDI:=Lib.hid hD
      clear hD
      by_cases hlm:i<m
      ·obtain⟨lb,loff,v,rfl,hlb,hv,c0⟩:=(HAL.out wi HDI.out.dt.tch).at_ hlm
       have hlw:lb<wi.heap.size:=cell_lt c0
       have HKI:=Lib.hid (key_i (HPF.out.2 v (List.mem_of_getElem? hv)))
       obtain⟨g6,hg6,hq6⟩:=HDI.out.ma
       have HG6:=Lib.hid hg6
       have HQ6:=Lib.hid hq6
       clear hv hg6 hq6
       go_wp2_with (at_mapUpdate;go_loud (refine wpList_update_T _ rfl _ _ _ 138 rfl 3 3 Try.keyInt Try.underlying138 (wl.heap.size+1) (k*1000000000+i) ekI ekI g6 HG6.out rfl (by unfold maxLen;omega) v _ rfl HKI.out (ekI_inj _) (k:Int) rfl ?_;intro w6 hm6 hgr6;have HM6:=Lib.hid hm6;have HT6:=Lib.hid (Touch.of_grown hgr6);clear hm6 hgr6))
       go_roundw
       case rel=>
        refine⟨i+1,by omega,by go_num, ?_⟩
        exact(HDI.out.lone (by omega) (by have:=HT3.out;omega) HT6.out HQ6.out HM6.out).more (Nat.le_refl _) (by omega)
       case measure=>simp[intOf];omega
      ·go_wp2_with fail
       go_roundw
       case rel=>exact⟨k+1,_,_,by omega,by go_num,⟨by omega,by omega⟩,HDI.out.next HXK.out (by omega) (by omega)⟩
       case measure=>simp[intOf];omega
  ·skip
   obtain⟨g,hmf,hfk, -,hgf⟩:=HD.out.mf
   obtain⟨ga,hma,haf⟩:=HD.out.ma
   have hkr:k=rn:=by omega
   have HFK:=Lib.hid (show FaceK p g (parts18 p).length from by have h1:=HRN.out;rw[←h1, ←hkr];exact hfk)
   have HGF:=Lib.hid hgf
   have HAF:=Lib.hid haf
   have HL:=Lib.hid (show wl.heap.size<w3.heap.size∧wl.heap.size+1<w3.heap.size∧wl.heap.size+1+1<w3.heap.size∧wl.heap.size≠wl.heap.size+1+1∧wl.heap.size+1≠wl.heap.size+1+1 from by have:=HT3.out;omega)
   have HD1:=Lib.hid (show D1 p w3 wq wl.heap.size (wl.heap.size+1) (wl.heap.size+1+1) 0 0 lf (.slice none 0 0) F [] k _ _ g ga from⟨HD.out.dt,rfl,by simp,⟨by decide,by decide⟩,hmf,hma⟩)
   have HKN:=Lib.hid (show k=(parts18 p).length from hkr.trans HRN.out)
   clear hmf hfk hgf hma haf HD hkr
   obtain⟨qx0,qx1,qx2,qx3,qx4,qx5,qx6,qx7⟩:=(HC2 _ HB2.out).out
   obtain⟨rx0,rx1⟩:=(HZ2 _ HB2.out.size).out
   go_wp2_with fail
   clear qx0 qx1 qx2 qx3 qx4 qx5 qx6 qx7 rx0 rx1
   go_loopw [109] (fun v wr=> ∃(i:Nat) (lv:Int) (V:Value) (vs:List VR),i≤vn∧v= .int .i64 i∧D1 p w3 wr wl.heap.size (wl.heap.size+1) (wl.heap.size+1+1) i lv lf V F vs k (k*1000000000) (k*1000000000) g ga) (fun v _=>vn - (intOf v).toNat)
   case atStart=>exact⟨0,_,_,_,Nat.zero_le _,rfl,HD1.out⟩
   case round=>
    clear HD1
    obtain⟨i,lv,V,vs,hi9,rfl,hD⟩:=hrel
    obtain⟨wi,rfl⟩: ∃x:World,x=wr:=⟨_,rfl⟩
    have HD:=Lib.hid hD
    have HXI:=Lib.hid (show Below w.heap.size w wi from HX4.out.trans (hD.dt.tch.below HX4.out.size (by have:=HWL.out;simp;omega)))
    have HQ3:=Lib.hid hD.dt.tch.size
    have HVL:=Lib.hid (show vs.length=i from by have h1:=congrArg List.length hD.pl;have h2:=HV.out.1;simp at h1;omega)
    clear hD
    by_cases hlv:i<vn
    ·skip
     obtain⟨vb,voff,v,rfl,hvb,hv,c0,c1,c2⟩:=(HV.out.below (HXI.out.mono hB)).at_ hlv
     have HVK:=Lib.hid hv
     have hvw:vb<wi.heap.size:=cell_lt c0
     have HVF:=Lib.hid (HFT.out.vs v (List.mem_of_getElem? hv))
     obtain⟨o0,o1,o2,o3,o4,o5⟩:=HD.out.dt.cell
     have ofz:=fun i=>World.rowIs.frozen HD.out.dt.tb i
     have htt:wl.heap.size+1+1<wi.heap.size:=World.rowIs.lt HD.out.dt.tb
     have ht1:=Nat.lt_succ_of_lt htt
     have ht2:=Nat.lt_succ_of_lt ht1
     have lk:=(HD.out.ma.alloc (.cells #[.int .i64 v.id, .int .i64 v.at_.x, .int .i64 v.at_.y] 53)).look_ok Try.keyInt Try.underlying138 (zeroInt _) (key_i (x:=v.id) HVF.out.1)
     unfold ekI at lk
     obtain⟨sb,sv,fz,hfz,hsf,hsv,hsb⟩: ∃(sb:Bool) (sv fz:Int),((sb=true∧sv=fz)∨(sb=false∧fz= -1))∧fitI fz∧((ga v.id).map ekI).getD (.int .i64 0)= .int .i64 sv∧(ga v.id).isSome=sb:=by
      cases hga:ga v.id with
      |none=>exact⟨false,0, -1, .inr ⟨rfl,rfl⟩,⟨by decide,by decide⟩,rfl,rfl⟩
      |some u=>exact⟨true,u,u, .inl ⟨rfl,rfl⟩,HAF.out _ _ hga,rfl,rfl⟩
     unfold ekI at hsv
     rw[hsv,hsb] at lk
     have HFZ:=Lib.hid hsf
     have HFC:=Lib.hid hfz
     clear hv hfz hsf hsv hsb
     go_upto_if 121 with fail
     clear lk
     go_cut [22] (fun v22 wx=>v22= .int .i64 fz∧wx=wi.alloc (.cells #[.int .i64 v.id, .int .i64 v.at_.x, .int .i64 v.at_.y] 53))
     case first=>
      rcases HFC.out with ⟨rfl,rfl⟩|⟨rfl,rfl⟩
      all_goals
       clear HFC
       go_wp2_with fail
       go_meet
       exact⟨rfl,rfl⟩
     case rest=>
     obtain⟨rfl,rfl⟩:=hcut
     have hvl:=HVL.out
     have HOV:=Lib.hid HD.out.dt.rv
     rw[hvl] at HOV
     clear hvl
     go_wp2_with (at_builtin;go_loud (refine wpList_append_near _ rfl (.tmp 123) (.tmp 130) 69 rfl w3.heap.size 141 l0 _ 4 32 Try.underlying69 hl0 hl1 hl2 hl3 rfl (by decide) V i (vs.flatMap vrC) rfl ((HOV.out.alloc _).alloc _) ⟨wi.heap.size+1,0,none⟩ 1 1 (vrC ⟨v.id,v.at_.x,v.at_.y,fz⟩) rfl (by decide) rfl (cell_list_at _ (vrC ⟨v.id,v.at_.x,v.at_.y,fz⟩) _ (by simp)) (by simp[vrC,Value.oneCell']) (by unfold maxLen;omega) (by omega) (by have:=HQ3.out;simp;omega) ?_))
     intro g8 cap8 w8 hown hgr hat8
     have HBX:=Lib.hid (show Below wi.heap.size wi ((wi.alloc (.cells #[.int .i64 v.id, .int .i64 v.at_.x, .int .i64 v.at_.y] 53)).alloc (.cells (vrC ⟨v.id,v.at_.x,v.at_.y,fz⟩).toArray 141)) from below_alloc (below_alloc (Below.refl _ _)))
     rw[←HVL.out] at hown
     obtain⟨hr8,hd8,G,hG,hGb⟩:=HD.out.next (v:=⟨v.id,v.at_.x,v.at_.y,fz⟩) HL.out HVK.out HFZ.out HVF.out.1 HBX.out hown hgr
     rw[HVL.out] at hd8
     have HD8:=Lib.hid hd8
     have HR8:=Lib.hid (show w8.cell? ⟨wi.heap.size,0,none⟩=some (.int .i64 v.id) from(hG.cell (p:=⟨wi.heap.size,0,none⟩) (by simp;omega) (fun hm=>by have:=hGb _ hm;simp at this)).trans (((below_alloc (Below.refl _ (wi.alloc (.cells #[.int .i64 v.id, .int .i64 v.at_.x, .int .i64 v.at_.y] 53)))).cell (p:=⟨wi.heap.size,0,none⟩) (by simp)).trans (by simp[World.cell?_alloc_new])))
     have f8:=fun i=>World.rowIs.frozen hr8 i
     have v0:w8.cell? ⟨wl.heap.size+1+1,0,none⟩=some (.int .i64 lv):=World.rowIs.cell hr8 (i:=0) (by decide)
     have v3:w8.cell? ⟨wl.heap.size+1+1,3,none⟩=some V:=World.rowIs.cell hr8 (i:=3) (by decide)
     have c8:=HR8.out
     have hw8:=cell_lt c8
     clear hr8 hd8 hG hGb hown hgr hat8 o0 o1 o2 o3 o4 o5 ofz HBX c0 c1 c2
     go_wp2_with fail
     go_roundw
     case rel=>exact⟨i+1,_,_,_,by omega,by go_num,HD8.out⟩
     case measure=>simp[intOf];omega
    ·skip
     have HB2:=Lib.hid (HB2q.out.trans HD.out.dt.tch (fun b hb=> .inl hb))
     have HPV:=Lib.hid (show vs.map vxOf=p.vs from by have h1:=HD.out.pl;rwa [List.take_of_length_le (by have:=HV.out.1;omega)] at h1)
     have HFV:=Lib.hid HD.out.fv
     have HFL:=Lib.hid HD.out.fl
     have HD2:=Lib.hid (show D2 p w3 wi wl.heap.size (wl.heap.size+1) (wl.heap.size+1+1) 0 lv 0 lf V (.slice none 0 0) F vs [] k _ g from⟨HD.out.dt,rfl,by simp,by simp,by simp,⟨by decide,by decide⟩,HD.out.mf⟩)
     clear HD
     obtain⟨qx0,qx1,qx2,qx3,qx4,qx5,qx6,qx7⟩:=(HC2 _ HB2.out).out
     obtain⟨rx0,rx1⟩:=(HZ2 _ HB2.out.size).out
     go_wp2_with fail
     clear qx0 qx1 qx2 qx3 qx4 qx5 qx6 qx7 rx0 rx1
     go_loopw [140] (fun v wr=> ∃(j:Nat) (le:Int) (E:Value) (es:List ER),j≤en∧v= .int .i64 j∧D2 p w3 wr wl.heap.size (wl.heap.size+1) (wl.heap.size+1+1) j lv le lf V E F vs es k (k*1000000000) g) (fun v _=>en - (intOf v).toNat)
     case atStart=>exact⟨0,_,_,_,Nat.zero_le _,rfl,HD2.out⟩
     case round=>
      clear HD2
      obtain⟨j,le,E,es,hj9,rfl,hD⟩:=hrel
      obtain⟨wj,rfl⟩: ∃x:World,x=wr:=⟨_,rfl⟩
      have HD:=Lib.hid hD
      have HXJ:=Lib.hid (show Below w.heap.size w wj from HX4.out.trans (hD.dt.tch.below HX4.out.size (by have:=HWL.out;simp;omega)))
      have HQ3:=Lib.hid hD.dt.tch.size
      have HEL:=Lib.hid (show es.length=j from by have h1:=congrArg List.length hD.pl;have h2:=HE.out.1;simp at h1;omega)
      clear hD
      by_cases hle:j<en
      ·skip
       obtain⟨eb,eoff,e,rfl,heb,he,c0,c1,c2⟩:=(HE.out.below (HXJ.out.mono hB)).at_ hle
       have HEK:=Lib.hid he
       have hem:=List.mem_of_getElem? he
       have hew:eb<wj.heap.size:=cell_lt c0
       have HEF:=Lib.hid (HFT.out.es e hem)
       have HMH:=fun b:Bool=>Lib.hid (show(⟨e.id,b⟩:Hf)∈halvesE p.es from mem_halves.2 ⟨e,hem,rfl⟩)
       have HKH:=fun b:Bool=>Lib.hid (key_h (h:=⟨e.id,b⟩) (HFT.out.half (HMH b).out))
       clear he hem
       go_wp2_with fail
       refine wp_name (fun V1 hV=> ?_)
       have HBV:=Lib.hid (show Below wj.heap.size wj V1 from by rw[←hV];exact below_alloc (below_alloc (below_alloc (Below.refl _ _))))
       have HRV:=Lib.hid (show V1.rowIs (wj.heap.size+1) 81 13 (erF (erK p g e 0))∧V1.rowIs (wj.heap.size+1+1) 4 2 bo18∧V1.cell? ⟨wj.heap.size,0,none⟩=some (.int .i64 e.id) from by
        rw[←hV]
        have h1:=row_alloc_at (wj.alloc (.cells #[.int .i64 e.id, .int .i64 e.a, .int .i64 e.b] 63)) #[.int .i64 e.id, .int .i64 e.a, .int .i64 e.b, .int .i64 0, .bool false, .int .i64 0, .bool false, .int .i64 0, .bool false, .int .i64 0, .bool false, .int .i64 0, .int .i64 0] 81 (erF (erK p g e 0)) (n:=wj.heap.size+1) (m:=13) (by simp) rfl (fun i hi=>by rcases i with _|_|_|_|_|_|_|_|_|_|_|_|_|i<;>first|rfl|(simp at hi;omega))
        have h2:=row_alloc_at ((wj.alloc (.cells #[.int .i64 e.id, .int .i64 e.a, .int .i64 e.b] 63)).alloc (.cells #[.int .i64 e.id, .int .i64 e.a, .int .i64 e.b, .int .i64 0, .bool false, .int .i64 0, .bool false, .int .i64 0, .bool false, .int .i64 0, .bool false, .int .i64 0, .int .i64 0] 81)) #[.bool false, .bool true] 4 bo18 (n:=wj.heap.size+1+1) (m:=2) (by simp) rfl (fun i hi=>by rcases i with _|_|i<;>first|rfl|(simp at hi;omega))
        refine⟨World.rowIs.alloc h1 _,h2, ?_⟩
        exact((below_alloc (below_alloc (Below.refl _ (wj.alloc (.cells #[.int .i64 e.id, .int .i64 e.a, .int .i64 e.b] 63))))).cell (p:=⟨wj.heap.size,0,none⟩) (by simp)).trans (by simp[World.cell?_alloc_new]))
       have HWV:=Lib.hid (show wj.heap.size+1+1+1=V1.heap.size from by rw[←hV];simp)
       clear hV c0 c1 c2
       have HLX:=fun(b:Bool) (W1:World) (t:Touch [wj.heap.size+1] V1 W1)=>Lib.hid (show(Instr.lookup 116 (.map (some b1)) (.agg #[.int .i64 e.id, .bool b]) false).run Try.prog W1= .ok (.agg #[.int .i64 (nextP p ⟨e.id,b⟩).edge, .bool (nextP p ⟨e.id,b⟩).back]) W1∧(Instr.lookup 116 (.map (some b2)) (.agg #[.int .i64 e.id, .bool b]) false).run Try.prog W1= .ok (.agg #[.int .i64 (prevP p ⟨e.id,b⟩).edge, .bool (prevP p ⟨e.id,b⟩).back]) W1∧(Instr.lookup 114 (.map (some wl.heap.size)) (.agg #[.int .i64 e.id, .bool b]) false).run Try.prog W1= .ok (.int .i64 ((g ⟨e.id,b⟩).getD 0)) W1 from by
        have hn:=HQ3.out
        have t2:Touch [wl.heap.size,wl.heap.size+1,wl.heap.size+1+1] w3 W1:=(HD.out.dt.tch.trans (Touch.of_below (F:=[]) HBV.out) (by simp)).trans t (fun b hb=> .inr (by simp at hb;omega))
        have h1:=(HL3.out.1.touch t2 (by have:=HLB.out;simp;omega)).look Try.keyHalf Try.underlying116 (zeroHf W1) (HKH b).out
        have h2:=(HL3.out.2.touch t2 (by have:=HLB.out;simp;omega)).look Try.keyHalf Try.underlying116 (zeroHf W1) (HKH b).out
        have h3:=((HD.out.mf.below HBV.out).touch t (by have:=HL.out.1;simp;omega)).look Try.keyHalf Try.underlying114 (zeroInt W1) (HKH b).out
        rw[lkN_all HR.out (HMH b).out] at h1
        rw[lkP_all HR.out (HMH b).out] at h2
        refine⟨h1,h2, ?_⟩
        rw[show(Value.agg #[.int .i64 e.id, .bool b])=ekH ⟨e.id,b⟩ from rfl,h3]
        cases g ⟨e.id,b⟩<;>rfl)
       go_loopw [153] (fun v wi=> ∃i:Nat,i≤2∧v= .int .i64 i∧wi.rowIs (wj.heap.size+1) 81 13 (erF (erK p g e i))∧Touch [wj.heap.size+1] V1 wi) (fun v _=>2 - (intOf v).toNat)
       case atStart=>exact⟨0,by omega,rfl,HRV.out.1,Touch.refl _ _⟩
       case round=>
        obtain⟨i,hi2,rfl,hrow,ht⟩:=hrel
        obtain⟨wy,rfl⟩: ∃x:World,x=wr:=⟨_,rfl⟩
        have HRY:=Lib.hid hrow
        have HTY:=Lib.hid ht
        have hb9:wy.cell? ⟨wj.heap.size,0,none⟩=some (.int .i64 e.id):=(ht.cell (p:=⟨wj.heap.size,0,none⟩) (by have:=HWV.out;show wj.heap.size<_;omega) (by simp)).trans HRV.out.2.2
        have hrb:=rowIs_touch HRV.out.2.1 ht (by simp)
        have hwy:wj.heap.size+1+1<wy.heap.size:=World.rowIs.lt hrb
        have hwy1:wj.heap.size<wy.heap.size:=by omega
        have q0:wy.cell? ⟨wj.heap.size+1+1,0,none⟩=some (.bool false):=World.rowIs.cell hrb (i:=0) (by decide)
        have q1:wy.cell? ⟨wj.heap.size+1+1,1,none⟩=some (.bool true):=World.rowIs.cell hrb (i:=1) (by decide)
        clear hrow ht hrb
        by_cases hlt2:i<2
        ·rcases(show i=0∨i=1 by omega) with rfl|rfl
         ·skip
          have HCY:=Lib.hid (show∀W1,Below (wy.alloc (.cells #[.int .i64 e.id, .bool false] 45)).heap.size (wy.alloc (.cells #[.int .i64 e.id, .bool false] 45)) W1→True from fun _ _=>trivial)
          go_upto_region 47 with fail
          refine wp_name (fun V2 hV2=> ?_)
          have HS2:=Lib.hid (show Touch [wj.heap.size+1] V1 V2∧V2.rowIs (wj.heap.size+1) 81 13 (erF (erK p g e 0))∧V2.cell? ⟨wy.heap.size,0,none⟩=some (.int .i64 e.id)∧V2.cell? ⟨wy.heap.size,1,none⟩=some (.bool false)∧wy.heap.size<V2.heap.size from by
           rw[←hV2]
           exact⟨HTY.out.alloc _,World.rowIs.alloc HRY.out _,by simp[World.cell?_alloc_new],by simp[World.cell?_alloc_new],by simp⟩)
          clear hV2 hb9 hwy hwy1 q0 q1 HCY
          have HY:=fun(w':World) (t:Touch [wj.heap.size+1] V2 w')=>Lib.hid (show w'.cell? ⟨wy.heap.size,0,none⟩=some (.int .i64 e.id)∧w'.cell? ⟨wy.heap.size,1,none⟩=some (.bool false)∧(Instr.lookup 116 (.map (some b1)) (.agg #[.int .i64 e.id, .bool false]) false).run Try.prog w'= .ok (.agg #[.int .i64 (nextP p ⟨e.id,false⟩).edge, .bool (nextP p ⟨e.id,false⟩).back]) w'∧(Instr.lookup 116 (.map (some b2)) (.agg #[.int .i64 e.id, .bool false]) false).run Try.prog w'= .ok (.agg #[.int .i64 (prevP p ⟨e.id,false⟩).edge, .bool (prevP p ⟨e.id,false⟩).back]) w'∧(Instr.lookup 114 (.map (some wl.heap.size)) (.agg #[.int .i64 e.id, .bool false]) false).run Try.prog w'= .ok (.int .i64 ((g ⟨e.id,false⟩).getD 0)) w' from by
           have hyj:wj.heap.size+1<wy.heap.size:=World.rowIs.lt HRY.out
           exact⟨(t.cell (p:=⟨wy.heap.size,0,none⟩) HS2.out.2.2.2.2 (by simp;omega)).trans HS2.out.2.2.1,(t.cell (p:=⟨wy.heap.size,1,none⟩) HS2.out.2.2.2.2 (by simp;omega)).trans HS2.out.2.2.2.1,(HLX false w' (HS2.out.1.trans t (fun b hb=> .inl hb))).out⟩)
          have HS0:=Lib.hid (Touch.refl [wj.heap.size+1] V2).drew
          have HR0:=Lib.hid (rowIs_touch HS2.out.2.1 (Touch.refl [] V2).drew (by simp))
          refine wp_region_noPanic ?_
          refine wp_region_par3 23 23 (by kernel_rfl) (by kernel_rfl) (by simp) (by omega) (by kernel_rfl) (by kernel_rfl) (fun w':World=>Touch [wj.heap.size+1] V2 w') ?_
          refine par3_read8 (v:= ?_) 0 (by simp only[zga,zgb,zgc];rfl) (by kernel_rfl) (by rfl) HS0.out ?_ (fun _ _ _ h=>h) ?_
          rotate_left
          ·(intro w9 hSw;obtain⟨y0,y1,y2,y3,y4⟩:=(HY w9 hSw).out;clear hSw;go_simp;try with_reducible rfl)
          simp only[Act.put,zpa,zpb,zpc]
          refine par3_read8 (v:= ?_) 2 (by simp only[zga,zgb,zgc];rfl) (by kernel_rfl) (by rfl) HS0.out ?_ (fun _ _ _ h=>h) ?_
          rotate_left
          ·(intro w9 hSw;obtain⟨y0,y1,y2,y3,y4⟩:=(HY w9 hSw).out;clear hSw;go_simp;try with_reducible rfl)
          simp only[Act.put,zpa,zpb,zpc]
          refine par3_read8 (v:= ?_) 4 (by simp only[zga,zgb,zgc];rfl) (by kernel_rfl) (by rfl) HS0.out ?_ (fun _ _ _ h=>h) ?_
          rotate_left
          ·(intro w9 hSw;obtain⟨y0,y1,y2,y3,y4⟩:=(HY w9 hSw).out;clear hSw;go_simp;try with_reducible rfl)
          simp only[Act.put,zpa,zpb,zpc]
          refine par3_move (v:= ?_) 6 (by simp only[zga,zgb,zgc];rfl) (by kernel_rfl) (by rfl) ?_ (fun _ _ _ h=>h) ?_
          rotate_left
          ·(intro w9;go_simp;try with_reducible rfl)
          simp only[Act.put,zpa,zpb,zpc]
          refine par3_read8 (v:= ?_) 7 (by simp only[zga,zgb,zgc];rfl) (by kernel_rfl) (by rfl) HS0.out ?_ (fun _ _ _ h=>h) ?_
          rotate_left
          ·(intro w9 hSw;obtain⟨y0,y1,y2,y3,y4⟩:=(HY w9 hSw).out;clear hSw;go_simp;try with_reducible rfl)
          simp only[Act.put,zpa,zpb,zpc]
          refine par3_read8 (v:= ?_) 8 (by simp only[zga,zgb,zgc];rfl) (by kernel_rfl) (by rfl) HS0.out ?_ (fun _ _ _ h=>h) ?_
          rotate_left
          ·(intro w9 hSw;obtain⟨y0,y1,y2,y3,y4⟩:=(HY w9 hSw).out;clear hSw;go_simp;try with_reducible rfl)
          simp only[Act.put,zpa,zpb,zpc]
          refine par3_move (v:= ?_) 9 (by simp only[zga,zgb,zgc];rfl) (by kernel_rfl) (by rfl) ?_ (fun _ _ _ h=>h) ?_
          rotate_left
          ·(intro w9;go_simp;try with_reducible rfl)
          simp only[Act.put,zpa,zpb,zpc]
          refine par3_read8 (v:= ?_) 10 (by simp only[zga,zgb,zgc];rfl) (by kernel_rfl) (by rfl) HS0.out ?_ (fun _ _ _ h=>h) ?_
          rotate_left
          ·(intro w9 hSw;obtain⟨y0,y1,y2,y3,y4⟩:=(HY w9 hSw).out;clear hSw;go_simp;try with_reducible rfl)
          simp only[Act.put,zpa,zpb,zpc]
          refine par3_read8 (v:= ?_) 11 (by simp only[zga,zgb,zgc];rfl) (by kernel_rfl) (by rfl) HS0.out ?_ (fun _ _ _ h=>h) ?_
          rotate_left
          ·(intro w9 hSw;obtain⟨y0,y1,y2,y3,y4⟩:=(HY w9 hSw).out;clear hSw;go_simp;try with_reducible rfl)
          simp only[Act.put,zpa,zpb,zpc]
          refine par3_move (v:= ?_) 12 (by simp only[zga,zgb,zgc];rfl) (by kernel_rfl) (by rfl) ?_ (fun _ _ _ h=>h) ?_
          rotate_left
          ·(intro w9;go_simp;try with_reducible rfl)
          simp only[Act.put,zpa,zpb,zpc]
          refine par3_read8 (v:= ?_) 13 (by simp only[zga,zgb,zgc];rfl) (by kernel_rfl) (by rfl) HS0.out ?_ (fun _ _ _ h=>h) ?_
          rotate_left
          ·(intro w9 hSw;obtain⟨y0,y1,y2,y3,y4⟩:=(HY w9 hSw).out;clear hSw;go_simp;try with_reducible rfl)
          simp only[Act.put,zpa,zpb,zpc]
          refine par3_read8 (v:= ?_) 14 (by simp only[zga,zgb,zgc];rfl) (by kernel_rfl) (by rfl) HS0.out ?_ (fun _ _ _ h=>h) ?_
          rotate_left
          ·(intro w9 hSw;obtain⟨y0,y1,y2,y3,y4⟩:=(HY w9 hSw).out;clear hSw;go_simp;try with_reducible rfl)
          simp only[Act.put,zpa,zpb,zpc]
          refine par3_move (v:= ?_) 15 (by simp only[zga,zgb,zgc];rfl) (by kernel_rfl) (by rfl) ?_ (fun _ _ _ h=>h) ?_
          rotate_left
          ·(intro w9;go_simp;try with_reducible rfl)
          simp only[Act.put,zpa,zpb,zpc]
          refine par3_move (v:= ?_) 18 (by simp only[zga,zgb,zgc];rfl) (by kernel_rfl) (by rfl) ?_ (fun _ _ _ h=>h) ?_
          rotate_left
          ·(intro w9;go_simp;try with_reducible rfl)
          simp only[Act.put,zpa,zpb,zpc]
          refine par3_move (v:= ?_) 21 (by simp only[zga,zgb,zgc];rfl) (by kernel_rfl) (by rfl) ?_ (fun _ _ _ h=>h) ?_
          rotate_left
          ·(intro w9;go_simp;try with_reducible rfl)
          simp only[Act.put,zpa,zpb,zpc]
          refine par3_one 1 (by simp only[zga,zgb,zgc];rfl) (by kernel_rfl) (by rfl) ?_
          refine owp_call (by go_simp;constructor<;>rfl) ?_
          refine(side_any _ e.id (false) (0) (by simp)).mono ?_
          rintro x w9 ⟨rfl,hb9⟩
          have hS9:=HS0.out.trans (Touch.of_below (F:=[wj.heap.size+1]) hb9) (fun b hb=> .inl hb)
          refine⟨_,rfl,fun _ _=>hS9, ?_⟩
          have HS0:=Lib.hid hS9
          have HR0:=Lib.hid (rowIs_touch HR0.out (Touch.of_below (F:=[]) hb9) (by simp))
          clear hb9 hS9
          simp only[Act.put,zpa,zpb,zpc]
          refine par3_move (v:= ?_) 16 (by simp only[zga,zgb,zgc];rfl) (by kernel_rfl) (by rfl) ?_ (fun _ _ _ h=>h) ?_
          rotate_left
          ·(intro w9;go_simp;try with_reducible rfl)
          simp only[Act.put,zpa,zpb,zpc]
          refine par3_one 3 (by simp only[zga,zgb,zgc];rfl) (by kernel_rfl) (by rfl) ?_
          refine owp_call (by go_simp;constructor<;>rfl) ?_
          refine(side_any _ e.id (false) (0) (by simp)).mono ?_
          rintro x w9 ⟨rfl,hb9⟩
          have hS9:=HS0.out.trans (Touch.of_below (F:=[wj.heap.size+1]) hb9) (fun b hb=> .inl hb)
          refine⟨_,rfl,fun _ _=>hS9, ?_⟩
          have HS0:=Lib.hid hS9
          have HR0:=Lib.hid (rowIs_touch HR0.out (Touch.of_below (F:=[]) hb9) (by simp))
          clear hb9 hS9
          simp only[Act.put,zpa,zpb,zpc]
          refine par3_one 5 (by simp only[zga,zgb,zgc];rfl) (by kernel_rfl) (by rfl) ?_
          refine owp_call (by go_simp;constructor<;>rfl) ?_
          refine(side_any _ e.id (false) (0) (by simp)).mono ?_
          rintro x w9 ⟨rfl,hb9⟩
          have hS9:=HS0.out.trans (Touch.of_below (F:=[wj.heap.size+1]) hb9) (fun b hb=> .inl hb)
          refine⟨_,rfl,fun _ _=>hS9, ?_⟩
          have HS0:=Lib.hid hS9
          have HR0:=Lib.hid (rowIs_touch HR0.out (Touch.of_below (F:=[]) hb9) (by simp))
          clear hb9 hS9
          simp only[Act.put,zpa,zpb,zpc]
          have fz:=fun i=>World.rowIs.frozen HR0.out i
          have d0:=World.rowIs.cell HR0.out (i:=3) (by decide)
          have d1:=World.rowIs.cell HR0.out (i:=4) (by decide)
          refine par3_one 17 (by simp only[zga,zgb,zgc];rfl) (by kernel_rfl) (by rfl) ?_
          refine owp_skip (w1:= ?_) ?_ ?_
          rotate_left
          ·(go_simp;first|rfl|(constructor<;>rfl))
          have HR1:=Lib.hid ((HR0.out.set 3 (.int .i64 (nextP p ⟨e.id,false⟩).edge)).set 4 (.bool (nextP p ⟨e.id,false⟩).back))
          have hS9:=(HS0.out.setCell (p:=⟨wj.heap.size+1,3,none⟩) (.inl (by simp)) (.int .i64 (nextP p ⟨e.id,false⟩).edge)).setCell (p:=⟨wj.heap.size+1,4,none⟩) (.inl (by simp)) (.bool (nextP p ⟨e.id,false⟩).back)
          have HS1:=Lib.hid hS9
          refine⟨fun _ _=>HS1.out, ?_⟩
          clear hS9 fz d0 d1 HS0 HR0
          simp only[Act.put,zpa,zpb,zpc]
          refine par3_nm (fun W17 hW17=> ?_)
          rw[←hW17] at HS1 HR1
          clear hW17
          refine par3_move (v:= ?_) 19 (by simp only[zga,zgb,zgc];rfl) (by kernel_rfl) (by rfl) ?_ (fun _ _ _ h=>h) ?_
          rotate_left
          ·(intro w9;go_simp;try with_reducible rfl)
          simp only[Act.put,zpa,zpb,zpc]
          have fz:=fun i=>World.rowIs.frozen HR1.out i
          have d0:=World.rowIs.cell HR1.out (i:=7) (by decide)
          have d1:=World.rowIs.cell HR1.out (i:=8) (by decide)
          refine par3_one 20 (by simp only[zga,zgb,zgc];rfl) (by kernel_rfl) (by rfl) ?_
          refine owp_skip (w1:= ?_) ?_ ?_
          rotate_left
          ·(go_simp;first|rfl|(constructor<;>rfl))
          have HR2:=Lib.hid ((HR1.out.set 7 (.int .i64 (prevP p ⟨e.id,false⟩).edge)).set 8 (.bool (prevP p ⟨e.id,false⟩).back))
          have hS9:=(HS1.out.setCell (p:=⟨wj.heap.size+1,7,none⟩) (.inl (by simp)) (.int .i64 (prevP p ⟨e.id,false⟩).edge)).setCell (p:=⟨wj.heap.size+1,8,none⟩) (.inl (by simp)) (.bool (prevP p ⟨e.id,false⟩).back)
          have HS2q:=Lib.hid hS9
          refine⟨fun _ _=>HS2q.out, ?_⟩
          clear hS9 fz d0 d1 HS1 HR1
          simp only[Act.put,zpa,zpb,zpc]
          refine par3_nm (fun W20 hW20=> ?_)
          rw[←hW20] at HS2q HR2
          clear hW20
          refine par3_move (v:= ?_) 22 (by simp only[zga,zgb,zgc];rfl) (by kernel_rfl) (by rfl) ?_ (fun _ _ _ h=>h) ?_
          rotate_left
          ·(intro w9;go_simp;try with_reducible rfl)
          simp only[Act.put,zpa,zpb,zpc]
          have fz:=fun i=>World.rowIs.frozen HR2.out i
          have d0:=World.rowIs.cell HR2.out (i:=11) (by decide)
          refine par3_tail _ (by simp only[List.drop_succ_cons,List.drop_zero];rfl) (by kernel_rfl) ?_
          skip
          go_wp2_with fail
          refine NoPanic.normal ?_
          go_wp2_with fail
          go_roundw
          case rel=>
           refine⟨0+1,by omega,by go_num,World.rowIs.congr (HR2.out.set 11 (.int .i64 ((g ⟨e.id,false⟩).getD 0))) (fun i hi=> ?_),HS2.out.1.trans (HS2q.out.setCell (.inl (by simp)) _) (fun b hb=> .inl hb)⟩
           rcases i with _|_|_|_|_|_|_|_|_|_|_|_|_|i<;>first|rfl|(exfalso;omega)
          case measure=>simp[intOf]
         ·skip
          have HCY:=Lib.hid (show∀W1,Below (wy.alloc (.cells #[.int .i64 e.id, .bool true] 45)).heap.size (wy.alloc (.cells #[.int .i64 e.id, .bool true] 45)) W1→True from fun _ _=>trivial)
          go_upto_region 47 with fail
          refine wp_name (fun V2 hV2=> ?_)
          have HS2:=Lib.hid (show Touch [wj.heap.size+1] V1 V2∧V2.rowIs (wj.heap.size+1) 81 13 (erF (erK p g e 1))∧V2.cell? ⟨wy.heap.size,0,none⟩=some (.int .i64 e.id)∧V2.cell? ⟨wy.heap.size,1,none⟩=some (.bool true)∧wy.heap.size<V2.heap.size from by
           rw[←hV2]
           exact⟨HTY.out.alloc _,World.rowIs.alloc HRY.out _,by simp[World.cell?_alloc_new],by simp[World.cell?_alloc_new],by simp⟩)
          clear hV2 hb9 hwy hwy1 q0 q1 HCY
          have HY:=fun(w':World) (t:Touch [wj.heap.size+1] V2 w')=>Lib.hid (show w'.cell? ⟨wy.heap.size,0,none⟩=some (.int .i64 e.id)∧w'.cell? ⟨wy.heap.size,1,none⟩=some (.bool true)∧(Instr.lookup 116 (.map (some b1)) (.agg #[.int .i64 e.id, .bool true]) false).run Try.prog w'= .ok (.agg #[.int .i64 (nextP p ⟨e.id,true⟩).edge, .bool (nextP p ⟨e.id,true⟩).back]) w'∧(Instr.lookup 116 (.map (some b2)) (.agg #[.int .i64 e.id, .bool true]) false).run Try.prog w'= .ok (.agg #[.int .i64 (prevP p ⟨e.id,true⟩).edge, .bool (prevP p ⟨e.id,true⟩).back]) w'∧(Instr.lookup 114 (.map (some wl.heap.size)) (.agg #[.int .i64 e.id, .bool true]) false).run Try.prog w'= .ok (.int .i64 ((g ⟨e.id,true⟩).getD 0)) w' from by
           have hyj:wj.heap.size+1<wy.heap.size:=World.rowIs.lt HRY.out
           exact⟨(t.cell (p:=⟨wy.heap.size,0,none⟩) HS2.out.2.2.2.2 (by simp;omega)).trans HS2.out.2.2.1,(t.cell (p:=⟨wy.heap.size,1,none⟩) HS2.out.2.2.2.2 (by simp;omega)).trans HS2.out.2.2.2.1,(HLX true w' (HS2.out.1.trans t (fun b hb=> .inl hb))).out⟩)
          have HS0:=Lib.hid (Touch.refl [wj.heap.size+1] V2).drew
          have HR0:=Lib.hid (rowIs_touch HS2.out.2.1 (Touch.refl [] V2).drew (by simp))
          refine wp_region_noPanic ?_
          refine wp_region_par3 23 23 (by kernel_rfl) (by kernel_rfl) (by simp) (by omega) (by kernel_rfl) (by kernel_rfl) (fun w':World=>Touch [wj.heap.size+1] V2 w') ?_
          refine par3_read8 (v:= ?_) 0 (by simp only[zga,zgb,zgc];rfl) (by kernel_rfl) (by rfl) HS0.out ?_ (fun _ _ _ h=>h) ?_
          rotate_left
          ·(intro w9 hSw;obtain⟨y0,y1,y2,y3,y4⟩:=(HY w9 hSw).out;clear hSw;go_simp;try with_reducible rfl)
          simp only[Act.put,zpa,zpb,zpc]
          refine par3_read8 (v:= ?_) 2 (by simp only[zga,zgb,zgc];rfl) (by kernel_rfl) (by rfl) HS0.out ?_ (fun _ _ _ h=>h) ?_
          rotate_left
          ·(intro w9 hSw;obtain⟨y0,y1,y2,y3,y4⟩:=(HY w9 hSw).out;clear hSw;go_simp;try with_reducible rfl)
          simp only[Act.put,zpa,zpb,zpc]
          refine par3_read8 (v:= ?_) 4 (by simp only[zga,zgb,zgc];rfl) (by kernel_rfl) (by rfl) HS0.out ?_ (fun _ _ _ h=>h) ?_
          rotate_left
          ·(intro w9 hSw;obtain⟨y0,y1,y2,y3,y4⟩:=(HY w9 hSw).out;clear hSw;go_simp;try with_reducible rfl)
          simp only[Act.put,zpa,zpb,zpc]
          refine par3_move (v:= ?_) 6 (by simp only[zga,zgb,zgc];rfl) (by kernel_rfl) (by rfl) ?_ (fun _ _ _ h=>h) ?_
          rotate_left
          ·(intro w9;go_simp;try with_reducible rfl)
          simp only[Act.put,zpa,zpb,zpc]
          refine par3_read8 (v:= ?_) 7 (by simp only[zga,zgb,zgc];rfl) (by kernel_rfl) (by rfl) HS0.out ?_ (fun _ _ _ h=>h) ?_
          rotate_left
          ·(intro w9 hSw;obtain⟨y0,y1,y2,y3,y4⟩:=(HY w9 hSw).out;clear hSw;go_simp;try with_reducible rfl)
          simp only[Act.put,zpa,zpb,zpc]
          refine par3_read8 (v:= ?_) 8 (by simp only[zga,zgb,zgc];rfl) (by kernel_rfl) (by rfl) HS0.out ?_ (fun _ _ _ h=>h) ?_
          rotate_left
          ·(intro w9 hSw;obtain⟨y0,y1,y2,y3,y4⟩:=(HY w9 hSw).out;clear hSw;go_simp;try with_reducible rfl)
          simp only[Act.put,zpa,zpb,zpc]
          refine par3_move (v:= ?_) 9 (by simp only[zga,zgb,zgc];rfl) (by kernel_rfl) (by rfl) ?_ (fun _ _ _ h=>h) ?_
          rotate_left
          ·(intro w9;go_simp;try with_reducible rfl)
          simp only[Act.put,zpa,zpb,zpc]
          refine par3_read8 (v:= ?_) 10 (by simp only[zga,zgb,zgc];rfl) (by kernel_rfl) (by rfl) HS0.out ?_ (fun _ _ _ h=>h) ?_
          rotate_left
          ·(intro w9 hSw;obtain⟨y0,y1,y2,y3,y4⟩:=(HY w9 hSw).out;clear hSw;go_simp;try with_reducible rfl)
          simp only[Act.put,zpa,zpb,zpc]
          refine par3_read8 (v:= ?_) 11 (by simp only[zga,zgb,zgc];rfl) (by kernel_rfl) (by rfl) HS0.out ?_ (fun _ _ _ h=>h) ?_
          rotate_left
          ·(intro w9 hSw;obtain⟨y0,y1,y2,y3,y4⟩:=(HY w9 hSw).out;clear hSw;go_simp;try with_reducible rfl)
          simp only[Act.put,zpa,zpb,zpc]
          refine par3_move (v:= ?_) 12 (by simp only[zga,zgb,zgc];rfl) (by kernel_rfl) (by rfl) ?_ (fun _ _ _ h=>h) ?_
          rotate_left
          ·(intro w9;go_simp;try with_reducible rfl)
          simp only[Act.put,zpa,zpb,zpc]
          refine par3_read8 (v:= ?_) 13 (by simp only[zga,zgb,zgc];rfl) (by kernel_rfl) (by rfl) HS0.out ?_ (fun _ _ _ h=>h) ?_
          rotate_left
          ·(intro w9 hSw;obtain⟨y0,y1,y2,y3,y4⟩:=(HY w9 hSw).out;clear hSw;go_simp;try with_reducible rfl)
          simp only[Act.put,zpa,zpb,zpc]
          refine par3_read8 (v:= ?_) 14 (by simp only[zga,zgb,zgc];rfl) (by kernel_rfl) (by rfl) HS0.out ?_ (fun _ _ _ h=>h) ?_
          rotate_left
          ·(intro w9 hSw;obtain⟨y0,y1,y2,y3,y4⟩:=(HY w9 hSw).out;clear hSw;go_simp;try with_reducible rfl)
          simp only[Act.put,zpa,zpb,zpc]
          refine par3_move (v:= ?_) 15 (by simp only[zga,zgb,zgc];rfl) (by kernel_rfl) (by rfl) ?_ (fun _ _ _ h=>h) ?_
          rotate_left
          ·(intro w9;go_simp;try with_reducible rfl)
          simp only[Act.put,zpa,zpb,zpc]
          refine par3_move (v:= ?_) 18 (by simp only[zga,zgb,zgc];rfl) (by kernel_rfl) (by rfl) ?_ (fun _ _ _ h=>h) ?_
          rotate_left
          ·(intro w9;go_simp;try with_reducible rfl)
          simp only[Act.put,zpa,zpb,zpc]
          refine par3_move (v:= ?_) 21 (by simp only[zga,zgb,zgc];rfl) (by kernel_rfl) (by rfl) ?_ (fun _ _ _ h=>h) ?_
          rotate_left
          ·(intro w9;go_simp;try with_reducible rfl)
          simp only[Act.put,zpa,zpb,zpc]
          refine par3_one 1 (by simp only[zga,zgb,zgc];rfl) (by kernel_rfl) (by rfl) ?_
          refine owp_call (by go_simp;constructor<;>rfl) ?_
          refine(side_any _ e.id (true) (1) (by simp)).mono ?_
          rintro x w9 ⟨rfl,hb9⟩
          have hS9:=HS0.out.trans (Touch.of_below (F:=[wj.heap.size+1]) hb9) (fun b hb=> .inl hb)
          refine⟨_,rfl,fun _ _=>hS9, ?_⟩
          have HS0:=Lib.hid hS9
          have HR0:=Lib.hid (rowIs_touch HR0.out (Touch.of_below (F:=[]) hb9) (by simp))
          clear hb9 hS9
          simp only[Act.put,zpa,zpb,zpc]
          refine par3_move (v:= ?_) 16 (by simp only[zga,zgb,zgc];rfl) (by kernel_rfl) (by rfl) ?_ (fun _ _ _ h=>h) ?_
          rotate_left
          ·(intro w9;go_simp;try with_reducible rfl)
          simp only[Act.put,zpa,zpb,zpc]
          refine par3_one 3 (by simp only[zga,zgb,zgc];rfl) (by kernel_rfl) (by rfl) ?_
          refine owp_call (by go_simp;constructor<;>rfl) ?_
          refine(side_any _ e.id (true) (1) (by simp)).mono ?_
          rintro x w9 ⟨rfl,hb9⟩
          have hS9:=HS0.out.trans (Touch.of_below (F:=[wj.heap.size+1]) hb9) (fun b hb=> .inl hb)
          refine⟨_,rfl,fun _ _=>hS9, ?_⟩
          have HS0:=Lib.hid hS9
          have HR0:=Lib.hid (rowIs_touch HR0.out (Touch.of_below (F:=[]) hb9) (by simp))
          clear hb9 hS9
          simp only[Act.put,zpa,zpb,zpc]
          refine par3_one 5 (by simp only[zga,zgb,zgc];rfl) (by kernel_rfl) (by rfl) ?_
          refine owp_call (by go_simp;constructor<;>rfl) ?_
          refine(side_any _ e.id (true) (1) (by simp)).mono ?_
          rintro x w9 ⟨rfl,hb9⟩
          have hS9:=HS0.out.trans (Touch.of_below (F:=[wj.heap.size+1]) hb9) (fun b hb=> .inl hb)
          refine⟨_,rfl,fun _ _=>hS9, ?_⟩
          have HS0:=Lib.hid hS9
          have HR0:=Lib.hid (rowIs_touch HR0.out (Touch.of_below (F:=[]) hb9) (by simp))
          clear hb9 hS9
          simp only[Act.put,zpa,zpb,zpc]
          have fz:=fun i=>World.rowIs.frozen HR0.out i
          have d0:=World.rowIs.cell HR0.out (i:=5) (by decide)
          have d1:=World.rowIs.cell HR0.out (i:=6) (by decide)
          refine par3_one 17 (by simp only[zga,zgb,zgc];rfl) (by kernel_rfl) (by rfl) ?_
          refine owp_skip (w1:= ?_) ?_ ?_
          rotate_left
          ·(go_simp;first|rfl|(constructor<;>rfl))
          have HR1:=Lib.hid ((HR0.out.set 5 (.int .i64 (nextP p ⟨e.id,true⟩).edge)).set 6 (.bool (nextP p ⟨e.id,true⟩).back))
          have hS9:=(HS0.out.setCell (p:=⟨wj.heap.size+1,5,none⟩) (.inl (by simp)) (.int .i64 (nextP p ⟨e.id,true⟩).edge)).setCell (p:=⟨wj.heap.size+1,6,none⟩) (.inl (by simp)) (.bool (nextP p ⟨e.id,true⟩).back)
          have HS1:=Lib.hid hS9
          refine⟨fun _ _=>HS1.out, ?_⟩
          clear hS9 fz d0 d1 HS0 HR0
          simp only[Act.put,zpa,zpb,zpc]
          refine par3_nm (fun W17 hW17=> ?_)
          rw[←hW17] at HS1 HR1
          clear hW17
          refine par3_move (v:= ?_) 19 (by simp only[zga,zgb,zgc];rfl) (by kernel_rfl) (by rfl) ?_ (fun _ _ _ h=>h) ?_
          rotate_left
          ·(intro w9;go_simp;try with_reducible rfl)
          simp only[Act.put,zpa,zpb,zpc]
          have fz:=fun i=>World.rowIs.frozen HR1.out i
          have d0:=World.rowIs.cell HR1.out (i:=9) (by decide)
          have d1:=World.rowIs.cell HR1.out (i:=10) (by decide)
          refine par3_one 20 (by simp only[zga,zgb,zgc];rfl) (by kernel_rfl) (by rfl) ?_
          refine owp_skip (w1:= ?_) ?_ ?_
          rotate_left
          ·(go_simp;first|rfl|(constructor<;>rfl))
          have HR2:=Lib.hid ((HR1.out.set 9 (.int .i64 (prevP p ⟨e.id,true⟩).edge)).set 10 (.bool (prevP p ⟨e.id,true⟩).back))
          have hS9:=(HS1.out.setCell (p:=⟨wj.heap.size+1,9,none⟩) (.inl (by simp)) (.int .i64 (prevP p ⟨e.id,true⟩).edge)).setCell (p:=⟨wj.heap.size+1,10,none⟩) (.inl (by simp)) (.bool (prevP p ⟨e.id,true⟩).back)
          have HS2q:=Lib.hid hS9
          refine⟨fun _ _=>HS2q.out, ?_⟩
          clear hS9 fz d0 d1 HS1 HR1
          simp only[Act.put,zpa,zpb,zpc]
          refine par3_nm (fun W20 hW20=> ?_)
          rw[←hW20] at HS2q HR2
          clear hW20
          refine par3_move (v:= ?_) 22 (by simp only[zga,zgb,zgc];rfl) (by kernel_rfl) (by rfl) ?_ (fun _ _ _ h=>h) ?_
          rotate_left
          ·(intro w9;go_simp;try with_reducible rfl)
          simp only[Act.put,zpa,zpb,zpc]
          have fz:=fun i=>World.rowIs.frozen HR2.out i
          have d0:=World.rowIs.cell HR2.out (i:=12) (by decide)
          refine par3_tail _ (by simp only[List.drop_succ_cons,List.drop_zero];rfl) (by kernel_rfl) ?_
          skip
          go_wp2_with fail
          refine NoPanic.normal ?_
          go_wp2_with fail
          go_roundw
          case rel=>
           refine⟨1+1,by omega,by go_num,World.rowIs.congr (HR2.out.set 12 (.int .i64 ((g ⟨e.id,true⟩).getD 0))) (fun i hi=> ?_),HS2.out.1.trans (HS2q.out.setCell (.inl (by simp)) _) (fun b hb=> .inl hb)⟩
           rcases i with _|_|_|_|_|_|_|_|_|_|_|_|_|i<;>first|rfl|(exfalso;omega)
          case measure=>simp[intOf]
        ·skip
         obtain rfl:i=2:=by omega
         have hby:=HBV.out.trans (HTY.out.below (show wj.heap.size≤V1.heap.size from HBV.out.size) (by simp))
         have HBY:=Lib.hid hby
         have hdt:=HD.out.dt.below hby
         obtain⟨o0,o1,o2,o3,o4,o5⟩:=hdt.cell
         have ofz:=fun i=>World.rowIs.frozen hdt.tb i
         have htt:wl.heap.size+1+1<wy.heap.size:=World.rowIs.lt hdt.tb
         have ht1:=Nat.lt_succ_of_lt htt
         have HOE:=Lib.hid hdt.re
         rw[HEL.out] at HOE
         obtain⟨er,her⟩: ∃er,er=erK p g e 2:=⟨_,rfl⟩
         have HER:=Lib.hid her
         rw[←her] at HRY
         have x0:=World.rowIs.cell HRY.out (i:=0) (by decide)
         have x1:=World.rowIs.cell HRY.out (i:=1) (by decide)
         have x2:=World.rowIs.cell HRY.out (i:=2) (by decide)
         have x3:=World.rowIs.cell HRY.out (i:=3) (by decide)
         have x4:=World.rowIs.cell HRY.out (i:=4) (by decide)
         have x5:=World.rowIs.cell HRY.out (i:=5) (by decide)
         have x6:=World.rowIs.cell HRY.out (i:=6) (by decide)
         have x7:=World.rowIs.cell HRY.out (i:=7) (by decide)
         have x8:=World.rowIs.cell HRY.out (i:=8) (by decide)
         have x9:=World.rowIs.cell HRY.out (i:=9) (by decide)
         have x10:=World.rowIs.cell HRY.out (i:=10) (by decide)
         have x11:=World.rowIs.cell HRY.out (i:=11) (by decide)
         have x12:=World.rowIs.cell HRY.out (i:=12) (by decide)
         simp only[erF] at x0 x1 x2 x3 x4 x5 x6 x7 x8 x9 x10 x11 x12
         clear hby hdt her q0 q1 hlt2 hi2
         go_wp2_with (at_builtin;go_loud (refine wpList_append_near _ rfl (.tmp 184) (.tmp 186) 70 rfl w3.heap.size 81 m0 _ 13 104 Try.underlying70 hm0 hm1 hm2 hm3 rfl (by decide) E j (es.flatMap erC) rfl (HOE.out.alloc _) ⟨wy.heap.size,0,none⟩ 1 1 (erC er) rfl (by decide) rfl (cell_list_at _ (erC er) _ rfl) (by simp[erC,Value.oneCell']) (by unfold maxLen;omega) (by omega) (by have:=HQ3.out;have:=HBY.out.size;simp;omega) ?_))
         intro g8 cap8 w8 hown hgr hat8
         have HBX:=Lib.hid (show Below wj.heap.size wj (wy.alloc (.cells (erC er).toArray 81)) from HBY.out.alloc HBY.out.size _)
         rw[←HEL.out,HER.out] at hown
         rw[HER.out] at HBX
         obtain⟨hr8,hd8,G,hG,hGb⟩:=HD.out.next HL.out HEK.out HGF.out HEF.out.1 HBX.out hown (by rw[←HER.out];exact hgr)
         rw[HEL.out] at hd8
         have HD8:=Lib.hid hd8
         have c8:w8.cell? ⟨wj.heap.size,0,none⟩=some (.int .i64 e.id):=(hG.cell (p:=⟨wj.heap.size,0,none⟩) (by simp;omega) (fun hm=>by have:=hGb _ hm;simp at this)).trans (((below_alloc (Below.refl _ wy)).cell (p:=⟨wj.heap.size,0,none⟩) hwy1).trans hb9)
         have f8:=fun i=>World.rowIs.frozen hr8 i
         have v1:w8.cell? ⟨wl.heap.size+1+1,1,none⟩=some (.int .i64 le):=World.rowIs.cell hr8 (i:=1) (by decide)
         have v4:w8.cell? ⟨wl.heap.size+1+1,4,none⟩=some E:=World.rowIs.cell hr8 (i:=4) (by decide)
         have hw8:=cell_lt c8
         clear hr8 hd8 hG hGb hown hgr hat8 o0 o1 o2 o3 o4 o5 ofz x0 x1 x2 x3 x4 x5 x6 x7 x8 x9 x10 x11 x12 hb9
         go_wp2_with fail
         go_roundw
         case rel=>exact⟨j+1,_,_,_,by omega,by go_num,HD8.out⟩
         case measure=>simp[intOf];omega
      ·skip
       have HB2:=Lib.hid (HB2q.out.trans HD.out.dt.tch (fun b hb=> .inl hb))
       have HXW:=Lib.hid (show Below W.heap.size W wj from(HB.out.trans (HW2.out.mono (show W.heap.size≤wl.heap.size from HB.out.size))).trans (HB2.out.below (show W.heap.size≤W2.heap.size from Nat.le_trans HB.out.size HW2.out.size) (by have:=HB.out.size;simp;omega)))
       have HPE:=Lib.hid (show es.map edOf=p.es from by have h1:=HD.out.pl;rwa [List.take_of_length_le (by have:=HE.out.1;omega)] at h1)
       obtain⟨a1,d1,rfl⟩:=own_form HD.out.dt.rv
       obtain⟨a2,d2,rfl⟩:=own_form HD.out.dt.re
       obtain⟨a3,d3,rfl⟩:=own_form HD.out.dt.rf
       obtain⟨o0,o1,o2,o3,o4,o5⟩:=HD.out.dt.cell
       have htt:wl.heap.size+1+1<wj.heap.size:=World.rowIs.lt HD.out.dt.tb
       have fz:=(HFZ _ HXW.out).out
       obtain⟨qx0,qx1,qx2,qx3,qx4,qx5,qx6,qx7⟩:=(HC2 _ HB2.out).out
       obtain⟨rx0,rx1⟩:=(HZ2 _ HB2.out.size).out
       have hcase:1099511627776<lv∨(¬1099511627776<lv∧1099511627776<le)∨(¬1099511627776<lv∧ ¬1099511627776<le):=by omega
       rcases hcase with g1|⟨g1,g2⟩|⟨g1,g2⟩
       rotate_right
       ·have HT:Hid (∀w5,Touch [w.heap.size+1] wj w5→DrPost p w (.returned (.tuple #[.agg #[.int .i64 lv, .int .i64 le, .int .i64 lf, .slice a1 vs.length d1, .slice a2 es.length d2, .slice a3 k d3], .int .i64 0])) w5):=Lib.hid (fun w5 T=>by
         have h0:w.heap.size+1<w3.heap.size:=by have h1:=HW23.out;have h2:=HW2.out.size;have h3:=HB.out.size;have h4:=HWs.out;omega
         have ho: ∀ {e:TypeId} {s m:Nat} {v:Value} {xs:List Value},wj.ownsRow w3.heap.size e s v m xs→w5.ownsRow w3.heap.size e s v m xs:=fun h1=>ownsRow_touch h1 T (fun q hq=>by have:=(h1.lt q hq).1;simp;omega)
         have hp:pOf vs es=p:=by unfold pOf;rw[HPV.out,HPE.out]
         refine⟨⟨lv,le,lf,0,_,_,_,rfl, .inr ⟨rfl,HFL.out,HD.out.fl,HLF.out,w3.heap.size,vs,es,facesK k,HX4.out.size,⟨ho HD.out.dt.rv,ho HD.out.dt.re, ?_,hp,HD.out.ln,⟨g,HD.out.fc,HFK.out⟩, ?_,⟨hp▸HFT.out,HFV.out,HD.out.fe,fun f hf=> ?_⟩⟩⟩⟩,HXJ.out.trans (T.below HXJ.out.size (fun b hb=>by simp at hb;omega))⟩
         ·rw[facesK_len]
          exact ho HD.out.dt.rf
         ·rw[facesK_len]
          exact HKN.out
         ·obtain⟨i,hi,rfl⟩:=List.mem_map.1 hf
          have:=List.mem_range.1 hi
          exact⟨by show(-9223372036854775808:Int)≤(i:Int);omega,by show(i:Int)≤9223372036854775807;omega⟩)
        go_wp2_with fail
        refine bodyPost_ret (v:= .tuple #[.agg #[.int .i64 lv, .int .i64 le, .int .i64 lf, .slice a1 vs.length d1, .slice a2 es.length d2, .slice a3 k d3], .int .i64 0]) (by simp[results,Try.results29,go_sem, *]) rfl ?_
        refine HT.out _ ?_
        iterate 6 refine Touch.setCell ?_ (.inl (by simp)) _
        with_reducible exact Touch.refl _ _
       all_goals
        go_wp2_with fail
        refine bodyPost_ret (v:= .tuple #[.agg #[.int .i64 0, .int .i64 0, .int .i64 0, .slice none 0 0, .slice none 0 0, .slice none 0 0], .int .i64 1]) (by simp[results,Try.results29,go_sem, *]) rfl ⟨⟨_,_,_,_,_,_,_,rfl, .inl ⟨rfl,rfl,rfl,rfl⟩⟩, ?_⟩
        iterate 6 refine Below.setCell ?_ (by simp) _
        with_reducible exact HXJ.out
end Go.Proofs.Ythopjhifepijiaa
