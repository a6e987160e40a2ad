/- Lemmas on the way to the statement: BtRead3, BtOps1, BtOps2, Par, Par2. -/
import Derived.Test.YtjgkegkinnlcoaaGreatDoorJ10
set_option linter.unusedSimpArgs false
set_option linter.unusedVariables false
namespace Go.Proofs.YtjgkegkinnlcoaaGreatDoor
open Go.RowKit Go.Maps Go.Joins
theorem repeatM (m:Nat) (w:World) (h:m≤1000000):Calls Tryz.prog 72 #[.string ⟨#[0]⟩, .int .i64 m] w fun e w'=>e= .returned (.string (S (nul m)))∧Below w.heap.size w w':=repeat_nul (m:Int) w (by omega) (by omega)
theorem containsB {w:World} {v:Value} {l:List Int} (h:IsI w .i64 v l) (hn:l.length≤1000000):
  Calls Tryz.prog 135 #[v, .int .i64 0] w fun e w'=>e= .returned (.bool (l.contains 0))∧Below w.heap.size w w':=by
 refine(containsZ h hn).mono ?_
 rintro e w' ⟨h1,rfl⟩
 exact⟨h1,Below.refl _ _⟩
theorem risingB {w:World} {v:Value} {l:List Int} (h:IsI w .u64 v l) (hn:l.length≤1000000):
  Calls Tryz.prog 136 #[v] w fun e w'=>e= .returned (.bool (risL l))∧Below w.heap.size w w':=
 (rising_any h hn).mono fun e w' h=>⟨h.1,h.2.below⟩
theorem bytes_agg {w:World} {kv vv cv:Value} {n:ND} {K:Nat} {b:Bool} (h:NdI w kv vv cv n) (hs:NdSh n K) (hK:K≤1000) (hb:n.leaf=b):
  Calls Tryz.prog 126 #[.agg #[.bool b,kv,vv,cv]] w fun e w'=>e= .returned (.tuple #[.int .i64 (ndK n), .string (S (ndB n))])∧Below w.heap.size w w':=by
 subst hb
 exact bytes_any h hs hK
set_option maxRecDepth 100000 in
set_option maxHeartbeats 8000000 in
theorem bread_any {w0 w:World} {p K:Nat} {M:PM} {X:List Nat} (h:PgX w0 w p K M X) (hK:K≤1000000000000) (no:Int):
  Calls Tryz.prog 59 #[.pointer (some ⟨p,0,none⟩), .int .i64 no] w fun e w'=> ∃kv vv cv,e= .returned (.tuple #[ndV kv vv cv (ndRead M no).2, .int .i64 (ndRead M no).1])∧NdO w' w.heap.size kv vv cv (ndRead M no).2∧PgX w0 w' p (K+4) M (ndBk kv vv cv++X)∧SameX X w w':=by
 have HRD:=fun(o:Obj)=>Lib.hid (px_read (h.move (Y:=w.heap.size::X) (w':=w.alloc o) (below_alloc (Below.refl _ _)) (fun y hy=>by
  simp only[List.mem_cons] at hy
  rcases hy with rfl|hy
  ·exact .inr ⟨Nat.le_refl _,by simp⟩
  ·exact .inl hy)) hK no)
 have HR0:=Lib.hid (ndF_new w (.slice none 0 0) (.slice none 0 0) (.slice none 0 0) nd0)
 have HX:=Lib.hid h.lt
 have HW:=Lib.hid h.below.size
 clear h
 obtain⟨kd,hkd⟩: ∃kd,kd=(readP M no).1:=⟨_,rfl⟩
 obtain⟨r,hr⟩: ∃r,r=(readP M no).2.1:=⟨_,rfl⟩
 obtain⟨er,her⟩: ∃er,er=(readP M no).2.2:=⟨_,rfl⟩
 have hnd:ndRead M no=if er≠0 then(er,nd0) else if ndC kd r=false then(19,nd0) else if ndOkB (ndOf kd r) r=true then(0,ndOf kd r) else(19,nd0):=by rw[hkd,hr,her];rfl
 rw[hnd]
 rw[←hkd, ←hr, ←her] at HRD
 have hsz:er=0→r.size=496:=fun e=>by rw[hr];exact readP_size (by rw[←her];exact e)
 clear hnd hkd hr her
 by_cases he:er=0
 rotate_left
 ·rw[if_pos he]
  have e1:(er != 0)=true:=by simpa using he
  go_enter Tryz.func59,Tryz.ntmps59
  go_wp2_with fail
  refine(HRD _).out.mono ?_
  rintro e w1 ⟨rfl,hp1,hs1⟩
  have HP1:=Lib.hid hp1
  have HS1:=Lib.hid hs1
  have hr1:=World.rowIs.of_block HR0.out (hs1.blk w.heap.size (by simp))
  have HR1:=Lib.hid hr1
  have HLT:=Lib.hid (World.rowIs.lt hr1)
  clear hp1 hs1 hr1
  go_wp2_with (refine wpList_store_node rfl (.tmp 4) (.tmp 25) rfl w.heap.size false (.slice none 0 0) (.slice none 0 0) (.slice none 0 0) nd0 rfl rfl rfl (rowIs_touch HR1.out (F:=[]) ((Touch.refl _ _).alloc _) (by simp)) (by simp[Value.oneCell']) ?_;intro w3 hr3 t3;have HR3:=Lib.hid hr3;have HT3:=Lib.hid t3;clear hr3 t3)
  refine bodyPost_ret_by (res_node2 Tryz.results59 rfl HR3.out) rfl ?_
  obtain⟨f1,f2,f3⟩:=rd_fin (B:=w1.heap.size) (n:=nd0) HP1.out HS1.out HX.out HW.out (below_alloc (Below.refl _ _)) (NdO.none _ _) (Nat.le_refl _) HT3.out
  exact⟨_,_,_,rfl,f1,f2,f3⟩
 have hz:=hsz he
 subst he
 rw[if_neg (by simp)]
 obtain⟨c,hc,hc1⟩: ∃c:Nat,leN (cut r 0 2)=(c:Int)∧c≤65535:=by
  obtain⟨h1,h2⟩:=cut_bd2 r 0
  exact⟨(leN (cut r 0 2)).toNat,by omega,by omega⟩
 have HC:=Lib.hid hc
 have q0:IntKind.i64.wrap (c:Int)=(c:Int):=IntWalk.i64_in _ (by omega)
 obtain⟨i0,hi0,hz0,hz1,hz2⟩:=info_parts Tryz.infoU
 obtain⟨k0,hk0,hy0,hy1,hy2⟩:=info_parts Tryz.infoI
 by_cases hk2:kd=2
 ·subst hk2
  rw[ndC_leaf hc,ndOf_leaf hc]
  by_cases h1:1≤c
  rotate_left
  ·have d1:decide ((1:Int)≤(c:Int))=false:=by simp;omega
   rw[if_pos (by simp;omega)]
   have d2: ¬((1:Int)≤(c:Int)):=by omega
   have d3: ¬(1≤c):=h1
   clear hc h1
   go_enter Tryz.func59,Tryz.ntmps59
   go_wp2_with fail
   refine(HRD _).out.mono ?_
   rintro e w1 ⟨rfl,hp1,hs1⟩
   have HP1:=Lib.hid hp1
   have HS1:=Lib.hid hs1
   have hr1:=World.rowIs.of_block HR0.out (hs1.blk w.heap.size (by simp))
   have HR1:=Lib.hid hr1
   have HLT:=Lib.hid (World.rowIs.lt hr1)
   clear hp1 hs1 hr1
   go_wp2_with (refine wpList_store_node rfl (.tmp 10) (.tmp 30) rfl (w1.heap.size+1) true (.slice none 0 0) (.slice none 0 0) (.slice none 0 0) ⟨true,[],[],[]⟩ rfl rfl rfl (node0_row w1 _) (by simp[Value.oneCell']) ?_;intro w3 hr3 t3;have HN3:=Lib.hid (RdN.start hr3 t3);clear hr3 t3)
   refine(getC0 HN3.out.cells.2.2.2.2.1 hz).mono ?_
   rintro e w4 ⟨rfl,rfl⟩
   rw[HC.out]
   go_wp2_with (refine wpList_store_node rfl (.tmp 4) (.tmp 34) rfl w.heap.size false (.slice none 0 0) (.slice none 0 0) (.slice none 0 0) nd0 rfl rfl rfl (rowIs_touch HR1.out (F:=[]) (Touch.of_below HN3.out.below) (by simp)) (by simp[Value.oneCell']) ?_;intro w5 hr5 t5;have HR5:=Lib.hid hr5;have HT5:=Lib.hid t5;clear hr5 t5)
   refine bodyPost_ret_by (res_node2 Tryz.results59 rfl HR5.out) rfl ?_
   obtain⟨f1,f2,f3⟩:=rd_fin (B:=w1.heap.size) (n:=nd0) HP1.out HS1.out HX.out HW.out HN3.out.below (NdO.none _ _) (Nat.le_refl _) HT5.out
   exact⟨_,_,_,rfl,f1,f2,f3⟩
  by_cases h2:c≤30
  rotate_left
  ·have d1:decide ((1:Int)≤(c:Int))=true:=by simp;omega
   have d2:decide ((c:Int)≤30)=false:=by simp;omega
   rw[if_pos (by simp;omega)]
   clear hc
   go_enter Tryz.func59,Tryz.ntmps59
   go_wp2_with fail
   refine(HRD _).out.mono ?_
   rintro e w1 ⟨rfl,hp1,hs1⟩
   have HP1:=Lib.hid hp1
   have HS1:=Lib.hid hs1
   have hr1:=World.rowIs.of_block HR0.out (hs1.blk w.heap.size (by simp))
   have HR1:=Lib.hid hr1
   have HLT:=Lib.hid (World.rowIs.lt hr1)
   clear hp1 hs1 hr1
   go_wp2_with (refine wpList_store_node rfl (.tmp 10) (.tmp 30) rfl (w1.heap.size+1) true (.slice none 0 0) (.slice none 0 0) (.slice none 0 0) ⟨true,[],[],[]⟩ rfl rfl rfl (node0_row w1 _) (by simp[Value.oneCell']) ?_;intro w3 hr3 t3;have HN3:=Lib.hid (RdN.start hr3 t3);clear hr3 t3)
   refine(getC0 HN3.out.cells.2.2.2.2.1 hz).mono ?_
   rintro e w4 ⟨rfl,rfl⟩
   rw[HC.out]
   go_wp2_with (refine wpList_store_node rfl (.tmp 4) (.tmp 34) rfl w.heap.size false (.slice none 0 0) (.slice none 0 0) (.slice none 0 0) nd0 rfl rfl rfl (rowIs_touch HR1.out (F:=[]) (Touch.of_below HN3.out.below) (by simp)) (by simp[Value.oneCell']) ?_;intro w5 hr5 t5;have HR5:=Lib.hid hr5;have HT5:=Lib.hid t5;clear hr5 t5)
   refine bodyPost_ret_by (res_node2 Tryz.results59 rfl HR5.out) rfl ?_
   obtain⟨f1,f2,f3⟩:=rd_fin (B:=w1.heap.size) (n:=nd0) HP1.out HS1.out HX.out HW.out HN3.out.below (NdO.none _ _) (Nat.le_refl _) HT5.out
   exact⟨_,_,_,rfl,f1,f2,f3⟩
  rw[if_neg (by simp;omega)]
  obtain⟨RES,hRS⟩: ∃RES:Int × ND,RES=if ndOkB (lfN r c c) r=true then(0,lfN r c c) else(19,nd0):=⟨_,rfl⟩
  rw[←hRS]
  have HRS:=Lib.hid hRS
  have d1:decide ((1:Int)≤(c:Int))=true:=by simp;omega
  have d2:decide ((c:Int)≤30)=true:=by simp;omega
  clear hRS
  have HCC:=Lib.hid hc
  clear hc
  go_enter Tryz.func59,Tryz.ntmps59
  go_wp2_with fail
  refine(HRD _).out.mono ?_
  rintro e w1 ⟨rfl,hp1,hs1⟩
  have HP1:=Lib.hid hp1
  have HS1:=Lib.hid hs1
  have hr1:=World.rowIs.of_block HR0.out (hs1.blk w.heap.size (by simp))
  have HR1:=Lib.hid hr1
  have HLT:=Lib.hid (World.rowIs.lt hr1)
  clear hp1 hs1 hr1
  go_wp2_with (refine wpList_store_node rfl (.tmp 10) (.tmp 30) rfl (w1.heap.size+1) true (.slice none 0 0) (.slice none 0 0) (.slice none 0 0) ⟨true,[],[],[]⟩ rfl rfl rfl (node0_row w1 _) (by simp[Value.oneCell']) ?_;intro w3 hr3 t3;have HN3:=Lib.hid (RdN.start hr3 t3);clear hr3 t3)
  refine(getC0 HN3.out.cells.2.2.2.2.1 hz).mono ?_
  rintro e w4 ⟨rfl,rfl⟩
  rw[HC.out]
  go_wp2_with fail
  go_loopw [12,47] (fun _ v wr=>RdLp w1 wr w1.heap.size (w1.heap.size+1) r (fun i=>lfN r i i) c v) (fun _ v _=>c - (intOf v).toNat)
  case atStart=>exact⟨⟨0,_,_,_,rfl,Nat.zero_le _,HN3.out⟩⟩
  case round=>
   obtain⟨⟨i,kv,vv,cv,rfl,hic,hn⟩⟩:=hrel
   have HN:=Lib.hid hn
   clear hn
   by_cases hlt:i<c
   ·have q1:IntKind.i64.wrap (16*(i:Int))=16*(i:Int):=IntWalk.i64_in _ (by omega)
    have q2:IntKind.i64.wrap (2+16*(i:Int))=2+16*(i:Int):=IntWalk.i64_in _ (by omega)
    have q3:IntKind.i64.wrap (10+16*(i:Int))=10+16*(i:Int):=IntWalk.i64_in _ (by omega)
    have q4:IntKind.i64.wrap ((i:Int)+1)=(i:Int)+1:=IntWalk.i64_in _ (by omega)
    go_wp2_with fail
    obtain⟨z0,z1,z2,z3,z4,zf⟩:=HN.out.cells
    have HS1:=Lib.hid (show(fun w':World=>w'.cell? ⟨w1.heap.size+1,1,none⟩=some kv∧w'.cell? ⟨w1.heap.size,0,none⟩=some (.string r)) wr.drew from⟨z1,z4⟩)
    have hb2:Below wr.heap.size wr (wr.drew.alloc (.cells #[.int .u64 (leN (cut r (2+16*i) 8))] 28)):=below_alloc (Below.refl _ _).drew
    have HS2:=Lib.hid (show(fun w':World=>w'.cell? ⟨w1.heap.size+1,1,none⟩=some kv∧w'.cell? ⟨w1.heap.size,0,none⟩=some (.string r)) (wr.drew.alloc (.cells #[.int .u64 (leN (cut r (2+16*i) 8))] 28)) from⟨(hb2.cell (p:=⟨_,_,none⟩) (World.rowIs.lt HN.out.box)).trans z1,(hb2.cell (p:=⟨_,_,none⟩) (World.rowIs.lt HN.out.room)).trans z4⟩)
    have HB2:=Lib.hid hb2
    clear z0 z1 z2 z3 z4 zf hb2
    refine wp_region_noPanic ?_
    refine wp_region_mids 6 8 (by kernel_rfl) (by kernel_rfl) (by decide) (by simp) (by kernel_rfl) (by kernel_rfl) (by kernel_rfl) (fun _ _ _ _ _ h=>h) (fun w'=>w'.cell? ⟨w1.heap.size+1,1,none⟩=some kv∧w'.cell? ⟨w1.heap.size,0,none⟩=some (.string r)) HS1.out ?_
    simp only[List.take_succ_cons,List.take_zero,List.drop_succ_cons,List.drop_zero]
    repeat (refine wpYield_cons (v:= ?_) (Or.inl ⟨by rfl, ?_⟩) ?_;rotate_left;(intro w hSw;(try dsimp only at hSw);go_simp;try with_reducible rfl);simp only[Act.put,zpa,zpb,zpc])
    refine wpYield_nil ?_
    refine wpMids_call (f:=134) (args:= #[.int .i64 (2+16*↑i), .int .i64 8, .pointer (some ⟨w1.heap.size,0,none⟩)]) (v:= .int .u64 (leN (cut r (2+16*i) 8))) (by rfl) (by first|(go_simp;done)|(go_simp;first|rfl|(constructor<;>rfl))) ?_
    refine(getCI HS1.out.2 hz (show(2+16*↑i)=((2+16*i:Nat):Int) by omega) (show(8:Int)=((8:Nat):Int) from rfl) (by omega) (by omega)).mono ?_
    rintro e W9 ⟨rfl,rfl⟩
    refine⟨rfl,HS1.out, ?_⟩
    simp only[Act.put,zpa,zpb,zpc]
    refine wpMids_val (v:= ?_) (w1:= ?_) (by rfl) ?_ ?_ ?_
    rotate_left 2
    ·(go_simp;constructor<;>rfl)
    ·exact HS2.out
    simp only[Act.put,zpa,zpb,zpc]
    refine wpMids_nil ?_
    refine wpList_append_near _ rfl (.tmp 51) (.tmp 57) 57 rfl (w1.heap.size+1+1) 28 i0 (.int .u64 0) 1 8 Tryz.underlying57 hi0 hz0 hz1 hz2 rfl (by decide) kv (lfN r i i).keys.length ((lfN r i i).keys.map (Value.int .u64)) rfl ((HN.out.later HB2.out).own.ks) ⟨wr.heap.size,0,none⟩ 1 1 [.int .u64 (leN (cut r (2+16*i) 8))] rfl (by decide) rfl (new_one _ _ _) (by simp[Value.oneCell']) (by rw[(lfN_kl r i i)];unfold maxLen;omega) (by rw[(lfN_kl r i i)];omega) (HN.out.base HB2.out) ?_
    intro g9 cap9 w5 hown hgr hat
    have hbx:=HN.out.boxK HB2.out (HN.out.own.ks) hgr
    have p5:=World.rowIs.cell hbx (i:=1) (by decide)
    have f5:=World.rowIs.frozen hbx 1
    have HN5:=Lib.hid (HN.out.addKey HB2.out hown hgr hat)
    clear hown hgr hat hbx
    go_wp2_with fail
    refine NoPanic.normal ?_
    clear p5 f5
    generalize w5.setCell ⟨w1.heap.size+1,1,none⟩ (.slice (some ⟨g9,0,none⟩) ((lfN r i i).keys.length+1) cap9)=W5 at HN5 ⊢
    have HV:=HN5
    clear HN5 HS1 HS2 HB2
    rw[lfN_key] at HV
    go_wp2_with fail
    obtain⟨z0,z1,z2,z3,z4,zf⟩:=HV.out.cells
    have HS1:=Lib.hid (show(fun w':World=>w'.cell? ⟨w1.heap.size+1,2,none⟩=some vv∧w'.cell? ⟨w1.heap.size,0,none⟩=some (.string r)) W5.drew from⟨z2,z4⟩)
    have hb2:Below W5.heap.size W5 (W5.drew.alloc (.cells #[.int .u64 (leN (cut r (10+16*i) 8))] 28)):=below_alloc (Below.refl _ _).drew
    have HS2:=Lib.hid (show(fun w':World=>w'.cell? ⟨w1.heap.size+1,2,none⟩=some vv∧w'.cell? ⟨w1.heap.size,0,none⟩=some (.string r)) (W5.drew.alloc (.cells #[.int .u64 (leN (cut r (10+16*i) 8))] 28)) from⟨(hb2.cell (p:=⟨_,_,none⟩) (World.rowIs.lt HV.out.box)).trans z2,(hb2.cell (p:=⟨_,_,none⟩) (World.rowIs.lt HV.out.room)).trans z4⟩)
    have HB2:=Lib.hid hb2
    clear z0 z1 z2 z3 z4 zf hb2
    refine wp_region_noPanic ?_
    refine wp_region_mids 6 8 (by kernel_rfl) (by kernel_rfl) (by decide) (by simp) (by kernel_rfl) (by kernel_rfl) (by kernel_rfl) (fun _ _ _ _ _ h=>h) (fun w'=>w'.cell? ⟨w1.heap.size+1,2,none⟩=some vv∧w'.cell? ⟨w1.heap.size,0,none⟩=some (.string r)) HS1.out ?_
    simp only[List.take_succ_cons,List.take_zero,List.drop_succ_cons,List.drop_zero]
    repeat (refine wpYield_cons (v:= ?_) (Or.inl ⟨by rfl, ?_⟩) ?_;rotate_left;(intro w hSw;(try dsimp only at hSw);go_simp;try with_reducible rfl);simp only[Act.put,zpa,zpb,zpc])
    refine wpYield_nil ?_
    refine wpMids_call (f:=134) (args:= #[.int .i64 (10+16*↑i), .int .i64 8, .pointer (some ⟨w1.heap.size,0,none⟩)]) (v:= .int .u64 (leN (cut r (10+16*i) 8))) (by rfl) (by first|(go_simp;done)|(go_simp;first|rfl|(constructor<;>rfl))) ?_
    refine(getCI HS1.out.2 hz (show(10+16*↑i)=((10+16*i:Nat):Int) by omega) (show(8:Int)=((8:Nat):Int) from rfl) (by omega) (by omega)).mono ?_
    rintro e W9 ⟨rfl,rfl⟩
    refine⟨rfl,HS1.out, ?_⟩
    simp only[Act.put,zpa,zpb,zpc]
    refine wpMids_val (v:= ?_) (w1:= ?_) (by rfl) ?_ ?_ ?_
    rotate_left 2
    ·(go_simp;constructor<;>rfl)
    ·exact HS2.out
    simp only[Act.put,zpa,zpb,zpc]
    refine wpMids_nil ?_
    refine wpList_append_near _ rfl (.tmp 61) (.tmp 67) 57 rfl (w1.heap.size+1+1) 28 i0 (.int .u64 0) 1 8 Tryz.underlying57 hi0 hz0 hz1 hz2 rfl (by decide) vv (lfN r (i+1) i).vals.length ((lfN r (i+1) i).vals.map (Value.int .u64)) rfl ((HV.out.later HB2.out).own.vs) ⟨W5.heap.size,0,none⟩ 1 1 [.int .u64 (leN (cut r (10+16*i) 8))] rfl (by decide) rfl (new_one _ _ _) (by simp[Value.oneCell']) (by rw[(lfN_vl r (i+1) i)];unfold maxLen;omega) (by rw[(lfN_vl r (i+1) i)];omega) (HV.out.base HB2.out) ?_
    intro g9 cap9 w5 hown hgr hat
    have hbx:=HV.out.boxK HB2.out (HV.out.own.vs) hgr
    have p5:=World.rowIs.cell hbx (i:=2) (by decide)
    have f5:=World.rowIs.frozen hbx 2
    have HN5:=Lib.hid (HV.out.addVal HB2.out hown hgr hat)
    clear hown hgr hat hbx
    go_wp2_with fail
    refine NoPanic.normal ?_
    clear p5 f5
    generalize w5.setCell ⟨w1.heap.size+1,2,none⟩ (.slice (some ⟨g9,0,none⟩) ((lfN r (i+1) i).vals.length+1) cap9)=W6 at HN5 ⊢
    have HV6:=HN5
    clear HN5 HS1 HS2 HB2
    rw[lfN_val] at HV6
    go_wp2_with fail
    go_roundw
    case rel=>exact⟨⟨i+1,_,_,_,by go_num,by omega,HV6.out⟩⟩
    case measure=>simp[intOf];omega
   ·obtain rfl:i=c:=by omega
    have HSH:=Lib.hid (lfN_sh r i h2)
    have HLE:=Lib.hid (lfN_len r i h2)
    have HKD:=Lib.hid (show(lfN r i i).kids.length≤1000000 from Nat.zero_le _)
    have HKY:=Lib.hid (show(lfN r i i).keys.length≤1000000 by rw[lfN_kl];omega)
    obtain⟨c0,c1,c2,c3,c4,cf⟩:=HN.out.cells
    have hni:=HN.out.own.i
    obtain⟨ka,kc,rfl⟩:=hni.ks.form
    obtain⟨va,vc,rfl⟩:=hni.vs.form
    obtain⟨ca,cc,rfl⟩:=hni.cs.form
    have c0:wr.cell? ⟨w1.heap.size+1,0,none⟩=some (.bool true):=c0
    have hby:=bytes_agg (b:=true) hni HSH.out (by omega) rfl
    obtain⟨Bs,hBs⟩: ∃Bs,Bs=S (ndB ((lfN r i i))):=⟨_,rfl⟩
    rw[←hBs] at hby
    have HBY:=Lib.hid hby
    have HBS:=Lib.hid hBs
    clear hni hby hBs
    go_wp2_with fail
    refine HBY.out.mono ?_
    rintro e w5 ⟨rfl,hb5⟩
    have HN5:=Lib.hid (HN.out.later hb5)
    clear hb5 c0 c1 c2 c3 c4 cf HBY
    obtain⟨c0,c1,c2,c3,c4,cf⟩:=HN5.out.cells
    have c0:w5.cell? ⟨w1.heap.size+1,0,none⟩=some (.bool true):=c0
    have hbl:=World.rowIs.lt HN5.out.box
    have hrl:=World.rowIs.lt HN5.out.room
    have hsz5:Bs.size≤496:=by rw[HBS.out,S_size];exact HLE.out
    obtain⟨m,hm⟩: ∃m:Nat,Bs.size+m=496:=⟨496 - Bs.size,by omega⟩
    have HRP:=fun(x:Later w5)=>Lib.hid (repeatM m x.1 (by omega))
    have HCT:=fun(x:Later w5)=>Lib.hid (containsB (HN5.out.own.i.cs.below x.2) HKD.out)
    have HRI:=fun(x:Later w5)=>Lib.hid (risingB (HN5.out.own.i.ks.below x.2) HKY.out)
    have x1:=fun(x:Later w5)=>(x.cell (o:=1) hbl).trans c1
    have x3:=fun(x:Later w5)=>(x.cell (o:=3) hbl).trans c3
    have x4:=fun(x:Later w5)=>(x.cell (o:=0) hrl).trans c4
    have qs:IntKind.i64.wrap (496 - (Bs.size:Int))=(m:Int):=by rw[IntWalk.i64_in _ (by omega)];omega
    have qt:496 - (Bs.size:Int)=(m:Int):=by omega
    have hfl:Bs++S (nul m)=fillR Bs 496:=by
     unfold fillR
     rw[append_S,show 496 - Bs.size=m by omega]
    have hns:(S (nul m)).size=m:=by rw[S_size,nul_length]
    have zz: ¬(9223372036854775807<Bs.size+m):=by omega
    have hok:ndOkB ((lfN r i i)) r=(decide (fillR Bs 496=r)&& !((lfN r i i)).kids.contains 0&&risL ((lfN r i i)).keys):=by rw[HBS.out];rfl
    have HOK:=Lib.hid hok
    clear hok
    obtain⟨CT,hCT⟩: ∃CT,CT=((lfN r i i)).kids.contains 0:=⟨_,rfl⟩
    obtain⟨RI,hRI⟩: ∃RI,RI=risL ((lfN r i i)).keys:=⟨_,rfl⟩
    rw[←hCT, ←hRI] at HOK
    rw[←hCT] at HCT
    rw[←hRI] at HRI
    clear hCT hRI
    by_cases hE:fillR Bs 496=r
    ·have hne1:((Bs++S (nul m)).toList==r.toList)=true:=by rw[hfl];exact str_eq hE
     have hok2:=HOK.out
     cases CT
     ·cases RI
      ·have HRES:Hid (ndOkB ((lfN r i i)) r=false):=Lib.hid (by rw[hok2];simp)
       clear hfl HOK hok2
       go_wp2_with fail
       refine wp_region_later (by kernel_rfl) (by kernel_rfl) ?_
       repeat (first|go_big_quiet_step (first|(go_at_call 72;with_reducible refine Later.call (HRP _).out)|(go_at_call 135;with_reducible refine Later.call (HCT _).out)|(go_at_call 136;with_reducible refine Later.call (HRI _).out))|quiet_step (first|(go_at_call 72;with_reducible refine Later.call (HRP _).out)|(go_at_call 135;with_reducible refine Later.call (HCT _).out)|(go_at_call 136;with_reducible refine Later.call (HRI _).out)))
       refine wpQuiet_nil ?_
       rintro w6 ⟨y6,hw6⟩
       have hb6:Below w5.heap.size w5 w6:=by rw[hw6];exact y6.2
       have HN6:=Lib.hid (HN5.out.later hb6)
       clear hw6 hb6 x1 x3 x4 c0 c1 c2 c3 c4 cf HRP HCT HRI
       go_wp2_with (refine wpList_store_node rfl (.tmp 4) (.tmp 140) rfl w.heap.size false (.slice none 0 0) (.slice none 0 0) (.slice none 0 0) nd0 rfl rfl rfl (rowIs_touch HR1.out (F:=[]) (Touch.of_below HN6.out.below) (by simp)) (by simp[Value.oneCell']) ?_;intro w7 hr7 t7;have HR7:=Lib.hid hr7;have HT7:=Lib.hid t7;clear hr7 t7)
       refine bodyPost_ret_by (res_node2 Tryz.results59 rfl HR7.out) rfl ?_
       obtain⟨f1,f2,f3⟩:=rd_fin (B:=w1.heap.size) (n:=nd0) HP1.out HS1.out HX.out HW.out HN6.out.below (NdO.none _ _) (Nat.le_refl _) HT7.out
       obtain rfl:RES=(19,nd0):=by rw[HRS.out,HRES.out];rfl
       exact⟨_,_,_,rfl,f1,f2,f3⟩
      ·have HRES:Hid (ndOkB ((lfN r i i)) r=true):=Lib.hid (by rw[hok2];simp[hE])
       clear hfl HOK hok2
       go_wp2_with fail
       refine wp_region_later (by kernel_rfl) (by kernel_rfl) ?_
       repeat (first|go_big_quiet_step (first|(go_at_call 72;with_reducible refine Later.call (HRP _).out)|(go_at_call 135;with_reducible refine Later.call (HCT _).out)|(go_at_call 136;with_reducible refine Later.call (HRI _).out))|quiet_step (first|(go_at_call 72;with_reducible refine Later.call (HRP _).out)|(go_at_call 135;with_reducible refine Later.call (HCT _).out)|(go_at_call 136;with_reducible refine Later.call (HRI _).out)))
       refine wpQuiet_nil ?_
       rintro w6 ⟨y6,hw6⟩
       have hb6:Below w5.heap.size w5 w6:=by rw[hw6];exact y6.2
       have HN6:=Lib.hid (HN5.out.later hb6)
       clear hw6 hb6 x1 x3 x4 c0 c1 c2 c3 c4 cf HRP HCT HRI
       obtain⟨c0,c1,c2,c3,c4,cf⟩:=HN6.out.cells
       have c0:w6.cell? ⟨w1.heap.size+1,0,none⟩=some (.bool true):=c0
       go_wp2_with (refine wpList_store_node rfl (.tmp 4) (.tmp 141) rfl w.heap.size true (.slice ka ((lfN r i i)).keys.length kc) (.slice va ((lfN r i i)).vals.length vc) (.slice ca ((lfN r i i)).kids.length cc) ((lfN r i i)) rfl rfl rfl (rowIs_touch HR1.out (F:=[]) (Touch.of_below HN6.out.below) (by simp)) (by simp[Value.oneCell']) ?_;intro w7 hr7 t7;have HR7:=Lib.hid hr7;have HT7:=Lib.hid t7;clear hr7 t7)
       refine bodyPost_ret_by (res_node2 Tryz.results59 rfl HR7.out) rfl ?_
       obtain⟨f1,f2,f3⟩:=rd_fin HP1.out HS1.out HX.out HW.out HN6.out.below HN6.out.own (by omega) HT7.out
       obtain rfl:RES=(0,(lfN r i i)):=by rw[HRS.out,HRES.out];rfl
       exact⟨_,_,_,rfl,f1,f2,f3⟩
     ·have HRES:Hid (ndOkB ((lfN r i i)) r=false):=Lib.hid (by rw[hok2];simp)
      clear hfl HOK hok2
      go_wp2_with fail
      refine wp_region_later (by kernel_rfl) (by kernel_rfl) ?_
      repeat (first|go_big_quiet_step (first|(go_at_call 72;with_reducible refine Later.call (HRP _).out)|(go_at_call 135;with_reducible refine Later.call (HCT _).out)|(go_at_call 136;with_reducible refine Later.call (HRI _).out))|quiet_step (first|(go_at_call 72;with_reducible refine Later.call (HRP _).out)|(go_at_call 135;with_reducible refine Later.call (HCT _).out)|(go_at_call 136;with_reducible refine Later.call (HRI _).out)))
      refine wpQuiet_nil ?_
      rintro w6 ⟨y6,hw6⟩
      have hb6:Below w5.heap.size w5 w6:=by rw[hw6];exact y6.2
      have HN6:=Lib.hid (HN5.out.later hb6)
      clear hw6 hb6 x1 x3 x4 c0 c1 c2 c3 c4 cf HRP HCT HRI
      go_wp2_with (refine wpList_store_node rfl (.tmp 4) (.tmp 140) rfl w.heap.size false (.slice none 0 0) (.slice none 0 0) (.slice none 0 0) nd0 rfl rfl rfl (rowIs_touch HR1.out (F:=[]) (Touch.of_below HN6.out.below) (by simp)) (by simp[Value.oneCell']) ?_;intro w7 hr7 t7;have HR7:=Lib.hid hr7;have HT7:=Lib.hid t7;clear hr7 t7)
      refine bodyPost_ret_by (res_node2 Tryz.results59 rfl HR7.out) rfl ?_
      obtain⟨f1,f2,f3⟩:=rd_fin (B:=w1.heap.size) (n:=nd0) HP1.out HS1.out HX.out HW.out HN6.out.below (NdO.none _ _) (Nat.le_refl _) HT7.out
      obtain rfl:RES=(19,nd0):=by rw[HRS.out,HRES.out];rfl
      exact⟨_,_,_,rfl,f1,f2,f3⟩
    ·have hne1:((Bs++S (nul m)).toList==r.toList)=false:=by rw[hfl];exact str_ne hE
     have HRES:Hid (ndOkB ((lfN r i i)) r=false):=Lib.hid (by rw[HOK.out];simp[hE])
     clear hfl HOK
     go_wp2_with fail
     refine wp_region_later (by kernel_rfl) (by kernel_rfl) ?_
     repeat (first|go_big_quiet_step (first|(go_at_call 72;with_reducible refine Later.call (HRP _).out)|(go_at_call 135;with_reducible refine Later.call (HCT _).out)|(go_at_call 136;with_reducible refine Later.call (HRI _).out))|quiet_step (first|(go_at_call 72;with_reducible refine Later.call (HRP _).out)|(go_at_call 135;with_reducible refine Later.call (HCT _).out)|(go_at_call 136;with_reducible refine Later.call (HRI _).out)))
     refine wpQuiet_nil ?_
     rintro w6 ⟨y6,hw6⟩
     have hb6:Below w5.heap.size w5 w6:=by rw[hw6];exact y6.2
     have HN6:=Lib.hid (HN5.out.later hb6)
     clear hw6 hb6 x1 x3 x4 c0 c1 c2 c3 c4 cf HRP HCT HRI
     go_wp2_with (refine wpList_store_node rfl (.tmp 4) (.tmp 140) rfl w.heap.size false (.slice none 0 0) (.slice none 0 0) (.slice none 0 0) nd0 rfl rfl rfl (rowIs_touch HR1.out (F:=[]) (Touch.of_below HN6.out.below) (by simp)) (by simp[Value.oneCell']) ?_;intro w7 hr7 t7;have HR7:=Lib.hid hr7;have HT7:=Lib.hid t7;clear hr7 t7)
     refine bodyPost_ret_by (res_node2 Tryz.results59 rfl HR7.out) rfl ?_
     obtain⟨f1,f2,f3⟩:=rd_fin (B:=w1.heap.size) (n:=nd0) HP1.out HS1.out HX.out HW.out HN6.out.below (NdO.none _ _) (Nat.le_refl _) HT7.out
     obtain rfl:RES=(19,nd0):=by rw[HRS.out,HRES.out];rfl
     exact⟨_,_,_,rfl,f1,f2,f3⟩
 by_cases hk3:kd=3
 ·subst hk3
  rw[ndC_fork hc,ndOf_fork hc]
  by_cases h1:1≤c
  rotate_left
  ·have d1:decide ((1:Int)≤(c:Int))=false:=by simp;omega
   rw[if_pos (by simp;omega)]
   have d2: ¬((1:Int)≤(c:Int)):=by omega
   have d3: ¬(1≤c):=h1
   clear hc h1
   go_enter Tryz.func59,Tryz.ntmps59
   go_wp2_with fail
   refine(HRD _).out.mono ?_
   rintro e w1 ⟨rfl,hp1,hs1⟩
   have HP1:=Lib.hid hp1
   have HS1:=Lib.hid hs1
   have hr1:=World.rowIs.of_block HR0.out (hs1.blk w.heap.size (by simp))
   have HR1:=Lib.hid hr1
   have HLT:=Lib.hid (World.rowIs.lt hr1)
   clear hp1 hs1 hr1
   go_wp2_with (refine wpList_store_node rfl (.tmp 10) (.tmp 30) rfl (w1.heap.size+1) false (.slice none 0 0) (.slice none 0 0) (.slice none 0 0) ⟨false,[],[],[]⟩ rfl rfl rfl (node0_row w1 _) (by simp[Value.oneCell']) ?_;intro w3 hr3 t3;have HN3:=Lib.hid (RdN.start hr3 t3);clear hr3 t3)
   refine(getC0 HN3.out.cells.2.2.2.2.1 hz).mono ?_
   rintro e w4 ⟨rfl,rfl⟩
   rw[HC.out]
   go_wp2_with (refine wpList_store_node rfl (.tmp 4) (.tmp 34) rfl w.heap.size false (.slice none 0 0) (.slice none 0 0) (.slice none 0 0) nd0 rfl rfl rfl (rowIs_touch HR1.out (F:=[]) (Touch.of_below HN3.out.below) (by simp)) (by simp[Value.oneCell']) ?_;intro w5 hr5 t5;have HR5:=Lib.hid hr5;have HT5:=Lib.hid t5;clear hr5 t5)
   refine bodyPost_ret_by (res_node2 Tryz.results59 rfl HR5.out) rfl ?_
   obtain⟨f1,f2,f3⟩:=rd_fin (B:=w1.heap.size) (n:=nd0) HP1.out HS1.out HX.out HW.out HN3.out.below (NdO.none _ _) (Nat.le_refl _) HT5.out
   exact⟨_,_,_,rfl,f1,f2,f3⟩
  by_cases h2:c≤40
  rotate_left
  ·have d1:decide ((1:Int)≤(c:Int))=true:=by simp;omega
   have d2:decide ((c:Int)≤40)=false:=by simp;omega
   rw[if_pos (by simp;omega)]
   clear hc
   go_enter Tryz.func59,Tryz.ntmps59
   go_wp2_with fail
   refine(HRD _).out.mono ?_
   rintro e w1 ⟨rfl,hp1,hs1⟩
   have HP1:=Lib.hid hp1
   have HS1:=Lib.hid hs1
   have hr1:=World.rowIs.of_block HR0.out (hs1.blk w.heap.size (by simp))
   have HR1:=Lib.hid hr1
   have HLT:=Lib.hid (World.rowIs.lt hr1)
   clear hp1 hs1 hr1
   go_wp2_with (refine wpList_store_node rfl (.tmp 10) (.tmp 30) rfl (w1.heap.size+1) false (.slice none 0 0) (.slice none 0 0) (.slice none 0 0) ⟨false,[],[],[]⟩ rfl rfl rfl (node0_row w1 _) (by simp[Value.oneCell']) ?_;intro w3 hr3 t3;have HN3:=Lib.hid (RdN.start hr3 t3);clear hr3 t3)
   refine(getC0 HN3.out.cells.2.2.2.2.1 hz).mono ?_
   rintro e w4 ⟨rfl,rfl⟩
   rw[HC.out]
   go_wp2_with (refine wpList_store_node rfl (.tmp 4) (.tmp 34) rfl w.heap.size false (.slice none 0 0) (.slice none 0 0) (.slice none 0 0) nd0 rfl rfl rfl (rowIs_touch HR1.out (F:=[]) (Touch.of_below HN3.out.below) (by simp)) (by simp[Value.oneCell']) ?_;intro w5 hr5 t5;have HR5:=Lib.hid hr5;have HT5:=Lib.hid t5;clear hr5 t5)
   refine bodyPost_ret_by (res_node2 Tryz.results59 rfl HR5.out) rfl ?_
   obtain⟨f1,f2,f3⟩:=rd_fin (B:=w1.heap.size) (n:=nd0) HP1.out HS1.out HX.out HW.out HN3.out.below (NdO.none _ _) (Nat.le_refl _) HT5.out
   exact⟨_,_,_,rfl,f1,f2,f3⟩
  rw[if_neg (by simp;omega)]
  obtain⟨RES,hRS⟩: ∃RES:Int × ND,RES=if ndOkB (fkN r c c) r=true then(0,fkN r c c) else(19,nd0):=⟨_,rfl⟩
  rw[←hRS]
  have HRS:=Lib.hid hRS
  have d1:decide ((1:Int)≤(c:Int))=true:=by simp;omega
  have d2:decide ((c:Int)≤40)=true:=by simp;omega
  have HCC:=Lib.hid hc
  have qk:IntKind.i64.wrap (leN (cut r 2 4))=leN (cut r 2 4):=by have:=cut_bd4 r 2;exact IntWalk.i64_in _ (by omega)
  clear hc hRS
  go_enter Tryz.func59,Tryz.ntmps59
  go_wp2_with fail
  refine(HRD _).out.mono ?_
  rintro e w1 ⟨rfl,hp1,hs1⟩
  have HP1:=Lib.hid hp1
  have HS1:=Lib.hid hs1
  have hr1:=World.rowIs.of_block HR0.out (hs1.blk w.heap.size (by simp))
  have HR1:=Lib.hid hr1
  have HLT:=Lib.hid (World.rowIs.lt hr1)
  clear hp1 hs1 hr1
  go_wp2_with (refine wpList_store_node rfl (.tmp 10) (.tmp 30) rfl (w1.heap.size+1) false (.slice none 0 0) (.slice none 0 0) (.slice none 0 0) ⟨false,[],[],[]⟩ rfl rfl rfl (node0_row w1 _) (by simp[Value.oneCell']) ?_;intro w3 hr3 t3;have HN3:=Lib.hid (RdN.start hr3 t3);clear hr3 t3)
  refine(getC0 HN3.out.cells.2.2.2.2.1 hz).mono ?_
  rintro e w4 ⟨rfl,rfl⟩
  rw[HC.out]
  go_wp2_with fail
  obtain⟨z0,z1,z2,z3,z4,zf⟩:=HN3.out.cells
  have HS1:=Lib.hid (show(fun w':World=>w'.cell? ⟨w1.heap.size+1,3,none⟩=some (.slice none 0 0)∧w'.cell? ⟨w1.heap.size,0,none⟩=some (.string r)) w3.drew from⟨z3,z4⟩)
  have hb2:Below w3.heap.size w3 (w3.drew.alloc (.cells #[.int .i64 (leN (cut r (2) 4))] 3)):=below_alloc (Below.refl _ _).drew
  have HS2:=Lib.hid (show(fun w':World=>w'.cell? ⟨w1.heap.size+1,3,none⟩=some (.slice none 0 0)∧w'.cell? ⟨w1.heap.size,0,none⟩=some (.string r)) (w3.drew.alloc (.cells #[.int .i64 (leN (cut r (2) 4))] 3)) from⟨(hb2.cell (p:=⟨_,_,none⟩) (World.rowIs.lt HN3.out.box)).trans z3,(hb2.cell (p:=⟨_,_,none⟩) (World.rowIs.lt HN3.out.room)).trans z4⟩)
  have HB2:=Lib.hid hb2
  clear z0 z1 z2 z3 z4 zf hb2
  refine wp_region_noPanic ?_
  refine wp_region_mids 3 6 (by kernel_rfl) (by kernel_rfl) (by decide) (by simp) (by kernel_rfl) (by kernel_rfl) (by kernel_rfl) (fun _ _ _ _ _ h=>h) (fun w'=>w'.cell? ⟨w1.heap.size+1,3,none⟩=some (.slice none 0 0)∧w'.cell? ⟨w1.heap.size,0,none⟩=some (.string r)) HS1.out ?_
  simp only[List.take_succ_cons,List.take_zero,List.drop_succ_cons,List.drop_zero]
  repeat (refine wpYield_cons (v:= ?_) (Or.inl ⟨by rfl, ?_⟩) ?_;rotate_left;(intro w hSw;(try dsimp only at hSw);go_simp;try with_reducible rfl);simp only[Act.put,zpa,zpb,zpc])
  refine wpYield_nil ?_
  refine wpMids_call (f:=134) (args:= #[.int .i64 (2), .int .i64 4, .pointer (some ⟨w1.heap.size,0,none⟩)]) (v:= .int .u64 (leN (cut r (2) 4))) (by rfl) (by first|(go_simp;done)|(go_simp;first|rfl|(constructor<;>rfl))) ?_
  refine(getCI HS1.out.2 hz (show(2)=((2:Nat):Int) by omega) (show(4:Int)=((4:Nat):Int) from rfl) (by omega) (by omega)).mono ?_
  rintro e W9 ⟨rfl,rfl⟩
  refine⟨rfl,HS1.out, ?_⟩
  simp only[Act.put,zpa,zpb,zpc]
  refine wpMids_val (v:= .int .i64 (leN (cut r (2) 4))) (w1:=_) (by rfl) (by first|(go_simp;done)|(go_simp;first|rfl|(constructor<;>rfl))) HS1.out ?_
  simp only[Act.put,zpa,zpb,zpc]
  refine wpMids_val (v:= ?_) (w1:= ?_) (by rfl) ?_ ?_ ?_
  rotate_left 2
  ·(go_simp;constructor<;>rfl)
  ·exact HS2.out
  simp only[Act.put,zpa,zpb,zpc]
  refine wpMids_nil ?_
  refine wpList_append_near _ rfl (.tmp 83) (.tmp 87) 67 rfl (w1.heap.size+1+1) 3 k0 (.int .i64 0) 1 8 Tryz.underlying67 hk0 hy0 hy1 hy2 rfl (by decide) (.slice none 0 0) (⟨false,[],[],[]⟩:ND).kids.length ((⟨false,[],[],[]⟩:ND).kids.map (Value.int .i64)) rfl ((HN3.out.later HB2.out).own.cs) ⟨w3.heap.size,0,none⟩ 1 1 [.int .i64 (leN (cut r (2) 4))] rfl (by decide) rfl (new_one _ _ _) (by simp[Value.oneCell']) (by rw[(show([]:List Int).length=0 from rfl)];unfold maxLen;omega) (by rw[(show([]:List Int).length=0 from rfl)];omega) (HN3.out.base HB2.out) ?_
  intro g9 cap9 w5 hown hgr hat
  have hbx:=HN3.out.boxK HB2.out (HN3.out.own.cs) hgr
  have p5:=World.rowIs.cell hbx (i:=3) (by decide)
  have f5:=World.rowIs.frozen hbx 3
  have HN5:=Lib.hid (HN3.out.addKid HB2.out hown hgr hat)
  clear hown hgr hat hbx
  go_wp2_with fail
  refine NoPanic.normal ?_
  clear p5 f5
  generalize w5.setCell ⟨w1.heap.size+1,3,none⟩ (.slice (some ⟨g9,0,none⟩) ((⟨false,[],[],[]⟩:ND).kids.length+1) cap9)=W4 at HN5 ⊢
  have HV4:=HN5
  clear HN5 HS1 HS2 HB2
  have HV4:Hid (RdN w1 W4 w1.heap.size (w1.heap.size+1) r _ _ _ (fkN r 0 0)):=HV4
  clear qk
  go_wp2_with fail
  go_loopw [13,91] (fun _ v wr=>RdLp w1 wr w1.heap.size (w1.heap.size+1) r (fun i=>fkN r i i) c v) (fun _ v _=>c - (intOf v).toNat)
  case atStart=>exact⟨⟨0,_,_,_,rfl,Nat.zero_le _,HV4.out⟩⟩
  case round=>
   obtain⟨⟨i,kv,vv,cv,rfl,hic,hn⟩⟩:=hrel
   have HN:=Lib.hid hn
   clear hn
   by_cases hlt:i<c
   ·have q1:IntKind.i64.wrap (12*(i:Int))=12*(i:Int):=IntWalk.i64_in _ (by omega)
    have q2:IntKind.i64.wrap (6+12*(i:Int))=6+12*(i:Int):=IntWalk.i64_in _ (by omega)
    have q3:IntKind.i64.wrap (14+12*(i:Int))=14+12*(i:Int):=IntWalk.i64_in _ (by omega)
    have q4:IntKind.i64.wrap ((i:Int)+1)=(i:Int)+1:=IntWalk.i64_in _ (by omega)
    have qk:IntKind.i64.wrap (leN (cut r (14+12*i) 4))=leN (cut r (14+12*i) 4):=by have:=cut_bd4 r (14+12*i);exact IntWalk.i64_in _ (by omega)
    go_wp2_with fail
    obtain⟨z0,z1,z2,z3,z4,zf⟩:=HN.out.cells
    have HS1:=Lib.hid (show(fun w':World=>w'.cell? ⟨w1.heap.size+1,1,none⟩=some kv∧w'.cell? ⟨w1.heap.size,0,none⟩=some (.string r)) wr.drew from⟨z1,z4⟩)
    have hb2:Below wr.heap.size wr (wr.drew.alloc (.cells #[.int .u64 (leN (cut r (6+12*i) 8))] 28)):=below_alloc (Below.refl _ _).drew
    have HS2:=Lib.hid (show(fun w':World=>w'.cell? ⟨w1.heap.size+1,1,none⟩=some kv∧w'.cell? ⟨w1.heap.size,0,none⟩=some (.string r)) (wr.drew.alloc (.cells #[.int .u64 (leN (cut r (6+12*i) 8))] 28)) from⟨(hb2.cell (p:=⟨_,_,none⟩) (World.rowIs.lt HN.out.box)).trans z1,(hb2.cell (p:=⟨_,_,none⟩) (World.rowIs.lt HN.out.room)).trans z4⟩)
    have HB2:=Lib.hid hb2
    clear z0 z1 z2 z3 z4 zf hb2
    refine wp_region_noPanic ?_
    refine wp_region_mids 6 8 (by kernel_rfl) (by kernel_rfl) (by decide) (by simp) (by kernel_rfl) (by kernel_rfl) (by kernel_rfl) (fun _ _ _ _ _ h=>h) (fun w'=>w'.cell? ⟨w1.heap.size+1,1,none⟩=some kv∧w'.cell? ⟨w1.heap.size,0,none⟩=some (.string r)) HS1.out ?_
    simp only[List.take_succ_cons,List.take_zero,List.drop_succ_cons,List.drop_zero]
    repeat (refine wpYield_cons (v:= ?_) (Or.inl ⟨by rfl, ?_⟩) ?_;rotate_left;(intro w hSw;(try dsimp only at hSw);go_simp;try with_reducible rfl);simp only[Act.put,zpa,zpb,zpc])
    refine wpYield_nil ?_
    refine wpMids_call (f:=134) (args:= #[.int .i64 (6+12*↑i), .int .i64 8, .pointer (some ⟨w1.heap.size,0,none⟩)]) (v:= .int .u64 (leN (cut r (6+12*i) 8))) (by rfl) (by first|(go_simp;done)|(go_simp;first|rfl|(constructor<;>rfl))) ?_
    refine(getCI HS1.out.2 hz (show(6+12*↑i)=((6+12*i:Nat):Int) by omega) (show(8:Int)=((8:Nat):Int) from rfl) (by omega) (by omega)).mono ?_
    rintro e W9 ⟨rfl,rfl⟩
    refine⟨rfl,HS1.out, ?_⟩
    simp only[Act.put,zpa,zpb,zpc]
    refine wpMids_val (v:= ?_) (w1:= ?_) (by rfl) ?_ ?_ ?_
    rotate_left 2
    ·(go_simp;constructor<;>rfl)
    ·exact HS2.out
    simp only[Act.put,zpa,zpb,zpc]
    refine wpMids_nil ?_
    refine wpList_append_near _ rfl (.tmp 95) (.tmp 101) 57 rfl (w1.heap.size+1+1) 28 i0 (.int .u64 0) 1 8 Tryz.underlying57 hi0 hz0 hz1 hz2 rfl (by decide) kv (fkN r i i).keys.length ((fkN r i i).keys.map (Value.int .u64)) rfl ((HN.out.later HB2.out).own.ks) ⟨wr.heap.size,0,none⟩ 1 1 [.int .u64 (leN (cut r (6+12*i) 8))] rfl (by decide) rfl (new_one _ _ _) (by simp[Value.oneCell']) (by rw[(fkN_kl r i i)];unfold maxLen;omega) (by rw[(fkN_kl r i i)];omega) (HN.out.base HB2.out) ?_
    intro g9 cap9 w5 hown hgr hat
    have hbx:=HN.out.boxK HB2.out (HN.out.own.ks) hgr
    have p5:=World.rowIs.cell hbx (i:=1) (by decide)
    have f5:=World.rowIs.frozen hbx 1
    have HN5:=Lib.hid (HN.out.addKey HB2.out hown hgr hat)
    clear hown hgr hat hbx
    go_wp2_with fail
    refine NoPanic.normal ?_
    clear p5 f5
    generalize w5.setCell ⟨w1.heap.size+1,1,none⟩ (.slice (some ⟨g9,0,none⟩) ((fkN r i i).keys.length+1) cap9)=W5 at HN5 ⊢
    have HV:=HN5
    clear HN5 HS1 HS2 HB2
    rw[fkN_key] at HV
    go_wp2_with fail
    obtain⟨z0,z1,z2,z3,z4,zf⟩:=HV.out.cells
    have HS1:=Lib.hid (show(fun w':World=>w'.cell? ⟨w1.heap.size+1,3,none⟩=some cv∧w'.cell? ⟨w1.heap.size,0,none⟩=some (.string r)) W5.drew from⟨z3,z4⟩)
    have hb2:Below W5.heap.size W5 (W5.drew.alloc (.cells #[.int .i64 (leN (cut r (14+12*i) 4))] 3)):=below_alloc (Below.refl _ _).drew
    have HS2:=Lib.hid (show(fun w':World=>w'.cell? ⟨w1.heap.size+1,3,none⟩=some cv∧w'.cell? ⟨w1.heap.size,0,none⟩=some (.string r)) (W5.drew.alloc (.cells #[.int .i64 (leN (cut r (14+12*i) 4))] 3)) from⟨(hb2.cell (p:=⟨_,_,none⟩) (World.rowIs.lt HV.out.box)).trans z3,(hb2.cell (p:=⟨_,_,none⟩) (World.rowIs.lt HV.out.room)).trans z4⟩)
    have HB2:=Lib.hid hb2
    clear z0 z1 z2 z3 z4 zf hb2
    refine wp_region_noPanic ?_
    refine wp_region_mids 6 9 (by kernel_rfl) (by kernel_rfl) (by decide) (by simp) (by kernel_rfl) (by kernel_rfl) (by kernel_rfl) (fun _ _ _ _ _ h=>h) (fun w'=>w'.cell? ⟨w1.heap.size+1,3,none⟩=some cv∧w'.cell? ⟨w1.heap.size,0,none⟩=some (.string r)) HS1.out ?_
    simp only[List.take_succ_cons,List.take_zero,List.drop_succ_cons,List.drop_zero]
    repeat (refine wpYield_cons (v:= ?_) (Or.inl ⟨by rfl, ?_⟩) ?_;rotate_left;(intro w hSw;(try dsimp only at hSw);go_simp;try with_reducible rfl);simp only[Act.put,zpa,zpb,zpc])
    refine wpYield_nil ?_
    refine wpMids_call (f:=134) (args:= #[.int .i64 (14+12*↑i), .int .i64 4, .pointer (some ⟨w1.heap.size,0,none⟩)]) (v:= .int .u64 (leN (cut r (14+12*i) 4))) (by rfl) (by first|(go_simp;done)|(go_simp;first|rfl|(constructor<;>rfl))) ?_
    refine(getCI HS1.out.2 hz (show(14+12*↑i)=((14+12*i:Nat):Int) by omega) (show(4:Int)=((4:Nat):Int) from rfl) (by omega) (by omega)).mono ?_
    rintro e W9 ⟨rfl,rfl⟩
    refine⟨rfl,HS1.out, ?_⟩
    simp only[Act.put,zpa,zpb,zpc]
    refine wpMids_val (v:= .int .i64 (leN (cut r (14+12*i) 4))) (w1:=_) (by rfl) (by first|(go_simp;done)|(go_simp;first|rfl|(constructor<;>rfl))) HS1.out ?_
    simp only[Act.put,zpa,zpb,zpc]
    refine wpMids_val (v:= ?_) (w1:= ?_) (by rfl) ?_ ?_ ?_
    rotate_left 2
    ·(go_simp;constructor<;>rfl)
    ·exact HS2.out
    simp only[Act.put,zpa,zpb,zpc]
    refine wpMids_nil ?_
    refine wpList_append_near _ rfl (.tmp 105) (.tmp 112) 67 rfl (w1.heap.size+1+1) 3 k0 (.int .i64 0) 1 8 Tryz.underlying67 hk0 hy0 hy1 hy2 rfl (by decide) cv (fkN r (i+1) i).kids.length ((fkN r (i+1) i).kids.map (Value.int .i64)) rfl ((HV.out.later HB2.out).own.cs) ⟨W5.heap.size,0,none⟩ 1 1 [.int .i64 (leN (cut r (14+12*i) 4))] rfl (by decide) rfl (new_one _ _ _) (by simp[Value.oneCell']) (by rw[(fkN_cl r (i+1) i)];unfold maxLen;omega) (by rw[(fkN_cl r (i+1) i)];omega) (HV.out.base HB2.out) ?_
    intro g9 cap9 w5 hown hgr hat
    have hbx:=HV.out.boxK HB2.out (HV.out.own.cs) hgr
    have p5:=World.rowIs.cell hbx (i:=3) (by decide)
    have f5:=World.rowIs.frozen hbx 3
    have HN5:=Lib.hid (HV.out.addKid HB2.out hown hgr hat)
    clear hown hgr hat hbx
    go_wp2_with fail
    refine NoPanic.normal ?_
    clear p5 f5
    generalize w5.setCell ⟨w1.heap.size+1,3,none⟩ (.slice (some ⟨g9,0,none⟩) ((fkN r (i+1) i).kids.length+1) cap9)=W6 at HN5 ⊢
    have HV6:=HN5
    clear HN5 HS1 HS2 HB2
    rw[fkN_kid] at HV6
    go_wp2_with fail
    go_roundw
    case rel=>exact⟨⟨i+1,_,_,_,by go_num,by omega,HV6.out⟩⟩
    case measure=>simp[intOf];omega
   ·obtain rfl:i=c:=by omega
    have HSH:=Lib.hid (fkN_sh r i h2)
    have HLE:=Lib.hid (fkN_len r i h2)
    have HKD:=Lib.hid (show(fkN r i i).kids.length≤1000000 by rw[fkN_cl];omega)
    have HKY:=Lib.hid (show(fkN r i i).keys.length≤1000000 by rw[fkN_kl];omega)
    obtain⟨c0,c1,c2,c3,c4,cf⟩:=HN.out.cells
    have hni:=HN.out.own.i
    obtain⟨ka,kc,rfl⟩:=hni.ks.form
    obtain⟨va,vc,rfl⟩:=hni.vs.form
    obtain⟨ca,cc,rfl⟩:=hni.cs.form
    have c0:wr.cell? ⟨w1.heap.size+1,0,none⟩=some (.bool false):=c0
    have hby:=bytes_agg (b:=false) hni HSH.out (by omega) rfl
    obtain⟨Bs,hBs⟩: ∃Bs,Bs=S (ndB ((fkN r i i))):=⟨_,rfl⟩
    rw[←hBs] at hby
    have HBY:=Lib.hid hby
    have HBS:=Lib.hid hBs
    clear hni hby hBs
    go_wp2_with fail
    refine HBY.out.mono ?_
    rintro e w5 ⟨rfl,hb5⟩
    have HN5:=Lib.hid (HN.out.later hb5)
    clear hb5 c0 c1 c2 c3 c4 cf HBY
    obtain⟨c0,c1,c2,c3,c4,cf⟩:=HN5.out.cells
    have c0:w5.cell? ⟨w1.heap.size+1,0,none⟩=some (.bool false):=c0
    have hbl:=World.rowIs.lt HN5.out.box
    have hrl:=World.rowIs.lt HN5.out.room
    have hsz5:Bs.size≤496:=by rw[HBS.out,S_size];exact HLE.out
    obtain⟨m,hm⟩: ∃m:Nat,Bs.size+m=496:=⟨496 - Bs.size,by omega⟩
    have HRP:=fun(x:Later w5)=>Lib.hid (repeatM m x.1 (by omega))
    have HCT:=fun(x:Later w5)=>Lib.hid (containsB (HN5.out.own.i.cs.below x.2) HKD.out)
    have HRI:=fun(x:Later w5)=>Lib.hid (risingB (HN5.out.own.i.ks.below x.2) HKY.out)
    have x1:=fun(x:Later w5)=>(x.cell (o:=1) hbl).trans c1
    have x3:=fun(x:Later w5)=>(x.cell (o:=3) hbl).trans c3
    have x4:=fun(x:Later w5)=>(x.cell (o:=0) hrl).trans c4
    have qs:IntKind.i64.wrap (496 - (Bs.size:Int))=(m:Int):=by rw[IntWalk.i64_in _ (by omega)];omega
    have qt:496 - (Bs.size:Int)=(m:Int):=by omega
    have hfl:Bs++S (nul m)=fillR Bs 496:=by
     unfold fillR
     rw[append_S,show 496 - Bs.size=m by omega]
    have hns:(S (nul m)).size=m:=by rw[S_size,nul_length]
    have zz: ¬(9223372036854775807<Bs.size+m):=by omega
    have hok:ndOkB ((fkN r i i)) r=(decide (fillR Bs 496=r)&& !((fkN r i i)).kids.contains 0&&risL ((fkN r i i)).keys):=by rw[HBS.out];rfl
    have HOK:=Lib.hid hok
    clear hok
    obtain⟨CT,hCT⟩: ∃CT,CT=((fkN r i i)).kids.contains 0:=⟨_,rfl⟩
    obtain⟨RI,hRI⟩: ∃RI,RI=risL ((fkN r i i)).keys:=⟨_,rfl⟩
    rw[←hCT, ←hRI] at HOK
    rw[←hCT] at HCT
    rw[←hRI] at HRI
    clear hCT hRI
    by_cases hE:fillR Bs 496=r
    ·have hne1:((Bs++S (nul m)).toList==r.toList)=true:=by rw[hfl];exact str_eq hE
     have hok2:=HOK.out
     cases CT
     ·cases RI
      ·have HRES:Hid (ndOkB ((fkN r i i)) r=false):=Lib.hid (by rw[hok2];simp)
       clear hfl HOK hok2
       go_wp2_with fail
       refine wp_region_later (by kernel_rfl) (by kernel_rfl) ?_
       repeat (first|go_big_quiet_step (first|(go_at_call 72;with_reducible refine Later.call (HRP _).out)|(go_at_call 135;with_reducible refine Later.call (HCT _).out)|(go_at_call 136;with_reducible refine Later.call (HRI _).out))|quiet_step (first|(go_at_call 72;with_reducible refine Later.call (HRP _).out)|(go_at_call 135;with_reducible refine Later.call (HCT _).out)|(go_at_call 136;with_reducible refine Later.call (HRI _).out)))
       refine wpQuiet_nil ?_
       rintro w6 ⟨y6,hw6⟩
       have hb6:Below w5.heap.size w5 w6:=by rw[hw6];exact y6.2
       have HN6:=Lib.hid (HN5.out.later hb6)
       clear hw6 hb6 x1 x3 x4 c0 c1 c2 c3 c4 cf HRP HCT HRI
       go_wp2_with (refine wpList_store_node rfl (.tmp 4) (.tmp 140) rfl w.heap.size false (.slice none 0 0) (.slice none 0 0) (.slice none 0 0) nd0 rfl rfl rfl (rowIs_touch HR1.out (F:=[]) (Touch.of_below HN6.out.below) (by simp)) (by simp[Value.oneCell']) ?_;intro w7 hr7 t7;have HR7:=Lib.hid hr7;have HT7:=Lib.hid t7;clear hr7 t7)
       refine bodyPost_ret_by (res_node2 Tryz.results59 rfl HR7.out) rfl ?_
       obtain⟨f1,f2,f3⟩:=rd_fin (B:=w1.heap.size) (n:=nd0) HP1.out HS1.out HX.out HW.out HN6.out.below (NdO.none _ _) (Nat.le_refl _) HT7.out
       obtain rfl:RES=(19,nd0):=by rw[HRS.out,HRES.out];rfl
       exact⟨_,_,_,rfl,f1,f2,f3⟩
      ·have HRES:Hid (ndOkB ((fkN r i i)) r=true):=Lib.hid (by rw[hok2];simp[hE])
       clear hfl HOK hok2
       go_wp2_with fail
       refine wp_region_later (by kernel_rfl) (by kernel_rfl) ?_
       repeat (first|go_big_quiet_step (first|(go_at_call 72;with_reducible refine Later.call (HRP _).out)|(go_at_call 135;with_reducible refine Later.call (HCT _).out)|(go_at_call 136;with_reducible refine Later.call (HRI _).out))|quiet_step (first|(go_at_call 72;with_reducible refine Later.call (HRP _).out)|(go_at_call 135;with_reducible refine Later.call (HCT _).out)|(go_at_call 136;with_reducible refine Later.call (HRI _).out)))
       refine wpQuiet_nil ?_
       rintro w6 ⟨y6,hw6⟩
       have hb6:Below w5.heap.size w5 w6:=by rw[hw6];exact y6.2
       have HN6:=Lib.hid (HN5.out.later hb6)
       clear hw6 hb6 x1 x3 x4 c0 c1 c2 c3 c4 cf HRP HCT HRI
       obtain⟨c0,c1,c2,c3,c4,cf⟩:=HN6.out.cells
       have c0:w6.cell? ⟨w1.heap.size+1,0,none⟩=some (.bool false):=c0
       go_wp2_with (refine wpList_store_node rfl (.tmp 4) (.tmp 141) rfl w.heap.size false (.slice ka ((fkN r i i)).keys.length kc) (.slice va ((fkN r i i)).vals.length vc) (.slice ca ((fkN r i i)).kids.length cc) ((fkN r i i)) rfl rfl rfl (rowIs_touch HR1.out (F:=[]) (Touch.of_below HN6.out.below) (by simp)) (by simp[Value.oneCell']) ?_;intro w7 hr7 t7;have HR7:=Lib.hid hr7;have HT7:=Lib.hid t7;clear hr7 t7)
       refine bodyPost_ret_by (res_node2 Tryz.results59 rfl HR7.out) rfl ?_
       obtain⟨f1,f2,f3⟩:=rd_fin HP1.out HS1.out HX.out HW.out HN6.out.below HN6.out.own (by omega) HT7.out
       obtain rfl:RES=(0,(fkN r i i)):=by rw[HRS.out,HRES.out];rfl
       exact⟨_,_,_,rfl,f1,f2,f3⟩
     ·have HRES:Hid (ndOkB ((fkN r i i)) r=false):=Lib.hid (by rw[hok2];simp)
      clear hfl HOK hok2
      go_wp2_with fail
      refine wp_region_later (by kernel_rfl) (by kernel_rfl) ?_
      repeat (first|go_big_quiet_step (first|(go_at_call 72;with_reducible refine Later.call (HRP _).out)|(go_at_call 135;with_reducible refine Later.call (HCT _).out)|(go_at_call 136;with_reducible refine Later.call (HRI _).out))|quiet_step (first|(go_at_call 72;with_reducible refine Later.call (HRP _).out)|(go_at_call 135;with_reducible refine Later.call (HCT _).out)|(go_at_call 136;with_reducible refine Later.call (HRI _).out)))
      refine wpQuiet_nil ?_
      rintro w6 ⟨y6,hw6⟩
      have hb6:Below w5.heap.size w5 w6:=by rw[hw6];exact y6.2
      have HN6:=Lib.hid (HN5.out.later hb6)
      clear hw6 hb6 x1 x3 x4 c0 c1 c2 c3 c4 cf HRP HCT HRI
      go_wp2_with (refine wpList_store_node rfl (.tmp 4) (.tmp 140) rfl w.heap.size false (.slice none 0 0) (.slice none 0 0) (.slice none 0 0) nd0 rfl rfl rfl (rowIs_touch HR1.out (F:=[]) (Touch.of_below HN6.out.below) (by simp)) (by simp[Value.oneCell']) ?_;intro w7 hr7 t7;have HR7:=Lib.hid hr7;have HT7:=Lib.hid t7;clear hr7 t7)
      refine bodyPost_ret_by (res_node2 Tryz.results59 rfl HR7.out) rfl ?_
      obtain⟨f1,f2,f3⟩:=rd_fin (B:=w1.heap.size) (n:=nd0) HP1.out HS1.out HX.out HW.out HN6.out.below (NdO.none _ _) (Nat.le_refl _) HT7.out
      obtain rfl:RES=(19,nd0):=by rw[HRS.out,HRES.out];rfl
      exact⟨_,_,_,rfl,f1,f2,f3⟩
    ·have hne1:((Bs++S (nul m)).toList==r.toList)=false:=by rw[hfl];exact str_ne hE
     have HRES:Hid (ndOkB ((fkN r i i)) r=false):=Lib.hid (by rw[HOK.out];simp[hE])
     clear hfl HOK
     go_wp2_with fail
     refine wp_region_later (by kernel_rfl) (by kernel_rfl) ?_
     repeat (first|go_big_quiet_step (first|(go_at_call 72;with_reducible refine Later.call (HRP _).out)|(go_at_call 135;with_reducible refine Later.call (HCT _).out)|(go_at_call 136;with_reducible refine Later.call (HRI _).out))|quiet_step (first|(go_at_call 72;with_reducible refine Later.call (HRP _).out)|(go_at_call 135;with_reducible refine Later.call (HCT _).out)|(go_at_call 136;with_reducible refine Later.call (HRI _).out)))
     refine wpQuiet_nil ?_
     rintro w6 ⟨y6,hw6⟩
     have hb6:Below w5.heap.size w5 w6:=by rw[hw6];exact y6.2
     have HN6:=Lib.hid (HN5.out.later hb6)
     clear hw6 hb6 x1 x3 x4 c0 c1 c2 c3 c4 cf HRP HCT HRI
     go_wp2_with (refine wpList_store_node rfl (.tmp 4) (.tmp 140) rfl w.heap.size false (.slice none 0 0) (.slice none 0 0) (.slice none 0 0) nd0 rfl rfl rfl (rowIs_touch HR1.out (F:=[]) (Touch.of_below HN6.out.below) (by simp)) (by simp[Value.oneCell']) ?_;intro w7 hr7 t7;have HR7:=Lib.hid hr7;have HT7:=Lib.hid t7;clear hr7 t7)
     refine bodyPost_ret_by (res_node2 Tryz.results59 rfl HR7.out) rfl ?_
     obtain⟨f1,f2,f3⟩:=rd_fin (B:=w1.heap.size) (n:=nd0) HP1.out HS1.out HX.out HW.out HN6.out.below (NdO.none _ _) (Nat.le_refl _) HT7.out
     obtain rfl:RES=(19,nd0):=by rw[HRS.out,HRES.out];rfl
     exact⟨_,_,_,rfl,f1,f2,f3⟩
 ·rw[ndC_no hk2 hk3,if_pos rfl]
  have e2:(kd==2)=false:=by simpa using hk2
  have e3:(kd==3)=false:=by simpa using hk3
  clear hc
  go_enter Tryz.func59,Tryz.ntmps59
  go_wp2_with fail
  refine(HRD _).out.mono ?_
  rintro e w1 ⟨rfl,hp1,hs1⟩
  have HP1:=Lib.hid hp1
  have HS1:=Lib.hid hs1
  have hr1:=World.rowIs.of_block HR0.out (hs1.blk w.heap.size (by simp))
  have HR1:=Lib.hid hr1
  have HLT:=Lib.hid (World.rowIs.lt hr1)
  clear hp1 hs1 hr1
  go_wp2_with (refine wpList_store_node rfl (.tmp 10) (.tmp 30) rfl (w1.heap.size+1) false (.slice none 0 0) (.slice none 0 0) (.slice none 0 0) ⟨false,[],[],[]⟩ rfl rfl rfl (node0_row w1 _) (by simp[Value.oneCell']) ?_;intro w3 hr3 t3;have HN3:=Lib.hid (RdN.start hr3 t3);clear hr3 t3)
  refine(getC0 HN3.out.cells.2.2.2.2.1 hz).mono ?_
  rintro e w4 ⟨rfl,rfl⟩
  rw[HC.out]
  go_wp2_with (refine wpList_store_node rfl (.tmp 4) (.tmp 34) rfl w.heap.size false (.slice none 0 0) (.slice none 0 0) (.slice none 0 0) nd0 rfl rfl rfl (rowIs_touch HR1.out (F:=[]) (Touch.of_below HN3.out.below) (by simp)) (by simp[Value.oneCell']) ?_;intro w5 hr5 t5;have HR5:=Lib.hid hr5;have HT5:=Lib.hid t5;clear hr5 t5)
  refine bodyPost_ret_by (res_node2 Tryz.results59 rfl HR5.out) rfl ?_
  obtain⟨f1,f2,f3⟩:=rd_fin (B:=w1.heap.size) (n:=nd0) HP1.out HS1.out HX.out HW.out HN3.out.below (NdO.none _ _) (Nat.le_refl _) HT5.out
  exact⟨_,_,_,rfl,f1,f2,f3⟩
end Go.Proofs.YtjgkegkinnlcoaaGreatDoor
namespace Go.Proofs.YtjgkegkinnlcoaaGreatDoor
open Go.RowKit Go.Maps Go.Joins
set_option maxRecDepth 100000 in
set_option maxHeartbeats 1000000 in
theorem place_any {w:World} {kv vv cv:Value} {n:ND} (key:Int) (h:NdI w kv vv cv n) (hp:n.keys.Pairwise (· < ·)) (hl:n.keys.length≤1000):
  Calls Tryz.prog 61 #[ndV kv vv cv n, .int .u64 key] w fun e w'=>e= .returned (.int .i64 (placeN n key))∧Below w.heap.size w w':=by
 obtain⟨ka,kc,rfl⟩:=h.ks.form
 obtain⟨va,vc,rfl⟩:=h.vs.form
 obtain⟨ca,cc,rfl⟩:=h.cs.form
 have HBS:=fun(w':World) (hb:Below w.heap.size w w')=>Lib.hid (bsearch_any key (h.ks.below hb) hp (by omega))
 have hq:=placeN_le hp key
 have hq2:=posL_le n.keys key
 have HPL:=Lib.hid (show placeN n key=posL n.keys key+(if hasL n.keys key=true then 1 else 0) from rfl)
 obtain⟨P,hP⟩: ∃P,P=posL n.keys key:=⟨_,rfl⟩
 obtain⟨H,hH⟩: ∃H,H=hasL n.keys key:=⟨_,rfl⟩
 rw[←hP, ←hH] at HBS HPL
 rw[←hP] at hq2
 have q1:IntKind.i64.wrap ((P:Int)+1)=(P:Int)+1:=IntWalk.i64_in _ (by omega)
 clear hP hH hq
 unfold ndV
 cases H
 ·go_enter Tryz.func61,Tryz.ntmps61
  go_wp2_with fail
  refine(HBS _ (below_alloc (Below.refl _ _))).out.mono ?_
  rintro e w1 ⟨rfl,hd⟩
  have HB1:=Lib.hid (below_step hd.below (below_alloc (Below.refl _ _)))
  clear hd
  go_wp2_with fail
  go_ret
  exact⟨by rw[HPL.out];rfl,HB1.out⟩
 ·go_enter Tryz.func61,Tryz.ntmps61
  go_wp2_with fail
  refine(HBS _ (below_alloc (Below.refl _ _))).out.mono ?_
  rintro e w1 ⟨rfl,hd⟩
  have HB1:=Lib.hid (below_step hd.below (below_alloc (Below.refl _ _)))
  clear hd
  go_wp2_with fail
  go_ret
  exact⟨by rw[HPL.out];rfl,HB1.out⟩
set_option maxRecDepth 100000 in
set_option maxHeartbeats 1000000 in
theorem thin_any {w:World} {kv vv cv:Value} {n:ND} (h:NdI w kv vv cv n):
  Calls Tryz.prog 132 #[ndV kv vv cv n] w fun e w'=>e= .returned (.bool (thinN n))∧Below w.heap.size w w':=by
 obtain⟨ka,kc,rfl⟩:=h.ks.form
 obtain⟨va,vc,rfl⟩:=h.vs.form
 obtain⟨ca,cc,rfl⟩:=h.cs.form
 unfold ndV thinN
 generalize n.keys.length=L
 cases n.leaf
 all_goals (
  by_cases h1:L<15
  ·have d1:decide ((L:Int)<15)=true:=by simp;omega
   go_enter Tryz.func132,Tryz.ntmps132
   go_wp2_with fail
   go_ret
   exact⟨by simp[h1],below_alloc (Below.refl _ _)⟩
  ·have d1:decide ((L:Int)<15)=false:=by simp;omega
   by_cases h2:L<20
   ·have d2:decide ((L:Int)<20)=true:=by simp;omega
    go_enter Tryz.func132,Tryz.ntmps132
    go_wp2_with fail
    go_ret
    exact⟨by simp[h1,h2],below_alloc (Below.refl _ _)⟩
   ·have d2:decide ((L:Int)<20)=false:=by simp;omega
    go_enter Tryz.func132,Tryz.ntmps132
    go_wp2_with fail
    go_ret
    exact⟨by simp[h1,h2],below_alloc (Below.refl _ _)⟩)
set_option maxRecDepth 100000 in
set_option maxHeartbeats 1000000 in
theorem full_any {w:World} {kv vv cv:Value} {n:ND} (h:NdI w kv vv cv n):
  Calls Tryz.prog 184 #[ndV kv vv cv n] w fun e w'=>e= .returned (.bool (fullN n))∧Below w.heap.size w w':=by
 obtain⟨ka,kc,rfl⟩:=h.ks.form
 obtain⟨va,vc,rfl⟩:=h.vs.form
 obtain⟨ca,cc,rfl⟩:=h.cs.form
 unfold ndV fullN
 generalize n.keys.length=L
 cases n.leaf
 all_goals (
  by_cases h1:40<L
  ·have d1:decide ((40:Int)<(L:Int))=true:=by simp;omega
   go_enter Tryz.func184,Tryz.ntmps184
   go_wp2_with fail
   go_ret
   exact⟨by simp[h1],below_alloc (Below.refl _ _)⟩
  ·have d1:decide ((40:Int)<(L:Int))=false:=by simp;omega
   by_cases h2:30<L
   ·have d2:decide ((30:Int)<(L:Int))=true:=by simp;omega
    go_enter Tryz.func184,Tryz.ntmps184
    go_wp2_with fail
    go_ret
    exact⟨by simp[h1,h2],below_alloc (Below.refl _ _)⟩
   ·have d2:decide ((30:Int)<(L:Int))=false:=by simp;omega
    go_enter Tryz.func184,Tryz.ntmps184
    go_wp2_with fail
    go_ret
    exact⟨by simp[h1,h2],below_alloc (Below.refl _ _)⟩)
set_option maxRecDepth 100000 in
set_option maxHeartbeats 1000000 in
theorem bwrite_any {w0 w:World} {p K J:Nat} {M:PM} {X:List Nat} {kv vv cv:Value} {n:ND} (h:PgX w0 w p K M X) (hK:K≤1000000000000) (hn:NdI w kv vv cv n) (hs:NdSh n J) (hJ:J≤1000) (no:Int):
  Calls Tryz.prog 127 #[.pointer (some ⟨p,0,none⟩), .int .i64 no,ndV kv vv cv n] w fun e w'=>e= .returned (.int .i64 (writeB M no n).1)∧PgX w0 w' p (K+4) (writeB M no n).2 X∧SameX X w w':=by
 obtain⟨ka,kc,rfl⟩:=hn.ks.form
 obtain⟨va,vc,rfl⟩:=hn.vs.form
 obtain⟨ca,cc,rfl⟩:=hn.cs.form
 have HBY:=fun(w':World) (hb:Below w.heap.size w w')=>Lib.hid (bytes_agg (b:=n.leaf) (hn.below hb) hs hJ rfl)
 have HPW:=fun(w':World) (hb:Below w.heap.size w w')=>Lib.hid (px_write (h.moveX hb) hK no (ndK n) (S (ndB n)))
 have HX:=Lib.hid h.lt
 clear h hn
 unfold ndV
 go_enter Tryz.func127,Tryz.ntmps127
 go_wp2_with fail
 refine(HBY _ (below_alloc (Below.refl _ _))).out.mono ?_
 rintro e w1 ⟨rfl,hb⟩
 have HB1:=Lib.hid (below_step hb (below_alloc (Below.refl _ _)))
 clear hb
 go_wp2_with fail
 refine(HPW _ HB1.out).out.mono ?_
 rintro e w2 ⟨rfl,hp,hs2⟩
 have HP:=Lib.hid hp
 have HS2:=Lib.hid hs2
 clear hp hs2
 go_wp2_with fail
 go_ret
 exact⟨rfl,HP.out,(SameX.of_below HB1.out HX.out).trans HS2.out⟩
theorem rootP_bd (M:PM) (i:Int):0≤(rootP M i).1∧(rootP M i).1≤18446744073709551615∧((rootP M i).2≠0→(rootP M i).1=0):=by
 unfold rootP
 split
 ·simp
 ·split
  ·simp
  ·have:=u64_bd (rdP M 0).2.1 (8+8*i.toNat)
   simp only
   exact⟨this.1,this.2,fun h=>absurd rfl h⟩
set_option maxRecDepth 100000 in
set_option maxHeartbeats 1000000 in
theorem top_any {w0 w:World} {p K:Nat} {M:PM} {X:List Nat} (h:PgX w0 w p K M X) (hK:K≤1000000000000) (root:Int):
  Calls Tryz.prog 54 #[.pointer (some ⟨p,0,none⟩), .int .i64 root] w fun e w'=>e= .returned (.tuple #[.int .i64 (topB M root).1, .int .i64 (topB M root).2])∧PgX w0 w' p (K+2) M X∧SameX X w w':=by
 have HRT:=Lib.hid (px_root h hK root)
 obtain⟨b1,b2,b3⟩:=rootP_bd M root
 have hT:topB M root=if (rootP M root).2=0∧2147483648≤(rootP M root).1 then(0,19) else((rootP M root).1,(rootP M root).2):=rfl
 rw[hT]
 clear hT h
 generalize rootP M root=x at HRT b1 b2 b3
 obtain⟨N,er⟩:=x
 simp only at HRT b1 b2 b3 ⊢
 have sh:N.fdiv (2 ^ min (Int.toNat 31) IntKind.u64.bits)=N / 2147483648:=by
  rw[show(2:Int) ^ min (Int.toNat 31) IntKind.u64.bits=2147483648 from rfl,Int.fdiv_eq_ediv_of_nonneg _ (by omega)]
 by_cases he:er=0
 ·subst he
  by_cases hb:2147483648≤N
  ·have e1:(N / 2147483648==0)=false:=by simp;omega
   have e2: ¬(N / 2147483648=0):=by omega
   rw[if_pos ⟨rfl,hb⟩]
   go_enter Tryz.func54,Tryz.ntmps54
   go_wp2_with fail
   refine HRT.out.mono ?_
   rintro e w1 ⟨rfl,hp,hs⟩
   have HP:=Lib.hid (And.intro hp hs)
   clear hp hs
   go_wp2_with fail
   go_ret2
   exact⟨rfl,HP.out⟩
  ·have e1:(N / 2147483648==0)=true:=by simp;omega
   have e2:N / 2147483648=0:=by omega
   have q1:IntKind.i64.wrap N=N:=IntWalk.i64_in _ (by omega)
   rw[if_neg (fun h=>hb h.2)]
   go_enter Tryz.func54,Tryz.ntmps54
   go_wp2_with fail
   refine HRT.out.mono ?_
   rintro e w1 ⟨rfl,hp,hs⟩
   have HP:=Lib.hid (And.intro hp hs)
   clear hp hs
   go_wp2_with fail
   go_ret2
   exact⟨rfl,HP.out⟩
 ·have e1:(er==0)=false:=by simpa using he
  obtain rfl:=b3 he
  rw[if_neg (fun h=>he h.1)]
  go_enter Tryz.func54,Tryz.ntmps54
  go_wp2_with fail
  refine HRT.out.mono ?_
  rintro e w1 ⟨rfl,hp,hs⟩
  have HP:=Lib.hid (And.intro hp hs)
  clear hp hs
  go_wp2_with fail
  go_ret2
  exact⟨rfl,HP.out⟩
end Go.Proofs.YtjgkegkinnlcoaaGreatDoor
namespace Go.Proofs.YtjgkegkinnlcoaaGreatDoor
open Go.RowKit Go.Maps Go.Joins
section
variable {w0 w w1 w':World} {p K J:Nat} {M:PM} {X:List Nat}
theorem PgX.more {g:Nat} (h:PgX w0 w p K M X) (hb:Below w.heap.size w w') (h1:w.heap.size≤g) (h2:g<w'.heap.size):PgX w0 w' p K M (g::X):=
 h.move hb (fun y hy=>by
  simp only[List.mem_cons] at hy
  rcases hy with rfl|hy
  ·exact .inr ⟨h1,h2⟩
  ·exact .inl hy)
theorem SameX.tail {g:Nat} (h:SameX (g::X) w w'):SameX X w w':=h.sub (fun y hy=>by simp[hy])
theorem SameX.row {g n:Nat} {t:TypeId} {f:Nat→Value} (h:SameX X w w') (hr:w.rowIs g t n f) (hg:g∈X):w'.rowIs g t n f:=World.rowIs.of_block hr (h.blk g hg)
end
set_option maxRecDepth 100000 in
set_option maxHeartbeats 1000000 in
theorem fresh_any {w0 w:World} {p K J:Nat} {M:PM} {X:List Nat} {kv vv cv:Value} {n:ND} (h:PgX w0 w p K M X) (hK:K≤900000000000) (hn:NdI w kv vv cv n) (hs:NdSh n J) (hJ:J≤1000) (hx: ∀g∈ndBk kv vv cv,g∈X):
  Calls Tryz.prog 55 #[.pointer (some ⟨p,0,none⟩),ndV kv vv cv n] w fun e w'=>e= .returned (.tuple #[.int .i64 (freshB M n).1, .int .i64 (freshB M n).2.1])∧PgX w0 w' p (K+12) (freshB M n).2.2 X∧SameX X w w':=by
 obtain⟨ka,kc,rfl⟩:=hn.ks.form
 obtain⟨va,vc,rfl⟩:=hn.vs.form
 obtain⟨ca,cc,rfl⟩:=hn.cs.form
 have HBY:=fun(w':World) (hb:Below w.heap.size w w')=>Lib.hid (bytes_agg (b:=n.leaf) (hn.below hb) hs hJ rfl)
 have HN:=Lib.hid hn
 have HSH:=Lib.hid hs
 have HX:=Lib.hid h.lt
 have HXX:=Lib.hid hx
 have HROW:=Lib.hid (ndF_new w (.slice ka n.keys.length kc) (.slice va n.vals.length vc) (.slice ca n.kids.length cc) n)
 have hT:freshB M n=if (allocP M (ndK n)).2.1≠0 then(0,(allocP M (ndK n)).2.1,(allocP M (ndK n)).2.2) else((allocP M (ndK n)).1,(writeB (allocP M (ndK n)).2.2 (allocP M (ndK n)).1 n).1,(writeB (allocP M (ndK n)).2.2 (allocP M (ndK n)).1 n).2):=rfl
 have HAL:=fun(w':World) (hb:Below w.heap.size w w') (hg:w.heap.size<w'.heap.size)=>Lib.hid (px_alloc (h.more hb (Nat.le_refl _) hg) (by omega) (ndK n))
 rw[hT]
 clear hT h hn hs hx
 generalize allocP M (ndK n)=A at HAL
 obtain⟨no,er,M'⟩:=A
 simp only at HAL ⊢
 have HWR:=fun(w':World) (h:PgX w0 w' p (K+8) M' (w.heap.size::X)) (hn:NdI w' (.slice ka n.keys.length kc) (.slice va n.vals.length vc) (.slice ca n.kids.length cc) n)=>Lib.hid (bwrite_any h (by omega) hn HSH.out hJ no)
 unfold ndV at HWR ⊢
 by_cases he:er=0
 ·subst he
  rw[if_neg (by simp)]
  go_enter Tryz.func55,Tryz.ntmps55
  go_wp2_with fail
  refine(HBY _ (below_alloc (Below.refl _ _))).out.mono ?_
  rintro e w1 ⟨rfl,hb⟩
  have HR1:=Lib.hid (rowIs_touch HROW.out (F:=[]) (Touch.of_below hb) (by simp))
  have HLT:=Lib.hid (World.rowIs.lt HR1.out)
  have HB1:=Lib.hid (below_step hb (below_alloc (Below.refl _ _)))
  clear hb
  go_wp2_with fail
  refine(HAL _ HB1.out HLT.out).out.mono ?_
  rintro e w2 ⟨rfl,hp,hs2⟩
  have HP:=Lib.hid hp
  have HS2:=Lib.hid hs2
  have hr2:=hs2.row HR1.out (by simp)
  obtain⟨c0,c1,c2,c3⟩:=ndF_cells hr2
  have HN2:=Lib.hid ((HN.out.below HB1.out).same hs2 (fun g hg=>by simp[HXX.out g hg]))
  clear hp hs2 hr2
  go_wp2_with fail
  refine(HWR _ HP.out HN2.out).out.mono ?_
  rintro e w3 ⟨rfl,hp3,hs3⟩
  have HP3:=Lib.hid hp3
  have HS3:=Lib.hid hs3
  clear hp3 hs3
  go_wp2_with fail
  go_ret2
  exact⟨rfl,HP3.out.sub (fun y hy=>by simp[hy]),((SameX.of_below HB1.out HX.out).trans HS2.out.tail).trans HS3.out.tail⟩
 ·have e1:(er != 0)=true:=by simpa using he
  rw[if_pos he]
  go_enter Tryz.func55,Tryz.ntmps55
  go_wp2_with fail
  refine(HBY _ (below_alloc (Below.refl _ _))).out.mono ?_
  rintro e w1 ⟨rfl,hb⟩
  have HR1:=Lib.hid (rowIs_touch HROW.out (F:=[]) (Touch.of_below hb) (by simp))
  have HLT:=Lib.hid (World.rowIs.lt HR1.out)
  have HB1:=Lib.hid (below_step hb (below_alloc (Below.refl _ _)))
  clear hb
  go_wp2_with fail
  refine(HAL _ HB1.out HLT.out).out.mono ?_
  rintro e w2 ⟨rfl,hp,hs2⟩
  have HP:=Lib.hid hp
  have HS2:=Lib.hid hs2
  clear hp hs2
  go_wp2_with fail
  go_ret2
  exact⟨rfl,(HP.out.sub (fun y hy=>by simp[hy])).mono (by omega),(SameX.of_below HB1.out HX.out).trans HS2.out.tail⟩
end Go.Proofs.YtjgkegkinnlcoaaGreatDoor
namespace Go.Proofs.YtjgkegkinnlcoaaGreatDoor
open Go.RowKit
section
variable {P:Program} {ops:Array Oper} {Q:Exit→Act→World→Prop} {S:World→Prop} {n f:Nat} {listed:Array Bool} {a:Act} {w w1:World}
structure Owp (P:Program) (o:Oper) (a:Act) (w:World) (K:Act→World→Prop) (Q:Exit→Act→World→Prop):Prop where
 out:o.wp P a w K Q
theorem owp_val {o:Oper} {v:Value} {K:Act→World→Prop} (h2:(execOp a.eval o).run P w= .ok (.value v) w1) (h:K (a.put o.dst v) w1):Owp P o a w K Q:=by
 refine⟨?_⟩
 unfold Oper.wp
 simp only[h2,Oper.upon]
 exact h
theorem owp_skip {o:Oper} {K:Act→World→Prop} (h2:(execOp a.eval o).run P w= .ok .skip w1) (h:K (a.put o.dst undef) w1):Owp P o a w K Q:=by
 refine⟨?_⟩
 unfold Oper.wp
 simp only[h2,Oper.upon]
 exact h
theorem owp_call {o:Oper} {g:FuncId} {args:Array Value} {K:Act→World→Prop} (h2:(execOp a.eval o).run P w= .ok (.enter g args) w) (h3:Calls P g args w fun e w'=> ∃v,e= .returned v∧K (a.put o.dst v) w'):Owp P o a w K Q:=by
 refine⟨?_⟩
 unfold Oper.wp
 simp only[h2,Oper.upon]
 exact h3.mono fun e w' ⟨v,he,h4⟩=>by subst he;exact h4
def wpPar (P:Program) (ops:Array Oper) (Q:Exit→Act→World→Prop) (S:World→Prop) (n f:Nat) (listed:Array Bool) (a:Act) (w:World):Prop:=
 TailOk .any ops n→HeadInv .any ops n listed→S w→wpAny2 P .any ops Q S n f listed a w
theorem par_read {o:Oper} {v:Value} (i:Nat) (hi:ops[i]? =some o) (hB:(decide (i<n)&&(Region.ready .any ops listed).contains i&&Region.free .any ops listed i)=true)
  (hw:Region.wanted o (yielded ops a.tmps)=true) (hy: ∀w,S w→(execOp a.eval o).run P w= .ok (.value v) w) (hQ: ∀c a w,Q (.panic c) (a.put o.dst v) w→Q (.panic c) a w)
  (h:wpPar P ops Q S n f (listed.setIfInBounds i true) (a.put o.dst v) w):wpPar P ops Q S n (f+1) listed a w:=fun T inv hS=>by
 simp only[Bool.and_eq_true,decide_eq_true_eq] at hB
 have hr:i∈Region.ready .any ops listed:=by simpa using hB.1.2
 exact wpAny2_first T hi hB.1.1 hQ f listed a w inv (Region.free_spec hi hB.2) hr (.inl ⟨hw,hy⟩) hS (h T (inv.set hr hB.1.1) hS)
theorem par_one {o:Oper} (i:Nat) (hi:ops[i]? =some o) (hB:(decide (i<n)&&decide (Region.ready .any ops listed=[i]))=true) (hw:Region.wanted o (yielded ops a.tmps)=true)
  (h:Owp P o a w (fun a' w'=>S w'∧wpPar P ops Q S n f (listed.setIfInBounds i true) a' w') Q):wpPar P ops Q S n (f+1) listed a w:=fun T inv hS=>by
 simp only[Bool.and_eq_true,decide_eq_true_eq] at hB
 refine⟨fun h1=>(by rw[hB.2] at h1;cases h1),fun k hk=> ?_⟩
 have hk0:=hk
 rw[hB.2] at hk
 obtain rfl:k=i:=by simpa using hk
 have hh:wpOp P ops Q k (fun a' w'=>S w'∧wpPar P ops Q S n f (listed.setIfInBounds k true) a' w') a w:=by
  unfold wpOp
  simp only[hi,hw,if_true]
  exact .inl h.out
 exact wpOp_mono (fun a' w' h'=>⟨fun _=>h'.1,h'.2 T (inv.set hk0 hB.1) h'.1⟩) hh
theorem par_two {o u:Oper} (i j:Nat) (hi:ops[i]? =some o) (hj:ops[j]? =some u) (hB:(decide (i<n)&&(decide (j<n)&&decide (Region.ready .any ops listed=[i,j])))=true) (hw:Region.wanted o (yielded ops a.tmps)=true) (hv:Region.wanted u (yielded ops a.tmps)=true)
  (h:Owp P o a w (fun a' w'=>S w'∧wpPar P ops Q S n f (listed.setIfInBounds i true) a' w') Q) (k:Owp P u a w (fun a' w'=>S w'∧wpPar P ops Q S n f (listed.setIfInBounds j true) a' w') Q):wpPar P ops Q S n (f+1) listed a w:=fun T inv hS=>by
 simp only[Bool.and_eq_true,decide_eq_true_eq] at hB
 refine⟨fun h1=>(by rw[hB.2.2] at h1;cases h1),fun x hx=> ?_⟩
 have hx0:=hx
 rw[hB.2.2] at hx
 have hx:x=i∨x=j:=by simpa using hx
 rcases hx with rfl|rfl
 ·have hh:wpOp P ops Q x (fun a' w'=>S w'∧wpPar P ops Q S n f (listed.setIfInBounds x true) a' w') a w:=by
   unfold wpOp
   simp only[hi,hw,if_true]
   exact .inl h.out
  exact wpOp_mono (fun a' w' h'=>⟨fun _=>h'.1,h'.2 T (inv.set hx0 hB.1) h'.1⟩) hh
 ·have hh:wpOp P ops Q x (fun a' w'=>S w'∧wpPar P ops Q S n f (listed.setIfInBounds x true) a' w') a w:=by
   unfold wpOp
   simp only[hj,hv,if_true]
   exact .inl k.out
  exact wpOp_mono (fun a' w' h'=>⟨fun _=>h'.1,h'.2 T (inv.set hx0 hB.2.1) h'.1⟩) hh
theorem par_tail (tl:List Oper) (htl:tl=ops.toList.drop n) (hB:(decide (f=tl.length)&&Region.seqB .any ops f n listed)=true) (h:wpList P ops Q tl a w):wpPar P ops Q S n f listed a w:=fun T inv hS=>by
 simp only[Bool.and_eq_true,decide_eq_true_eq] at hB
 obtain⟨hf,hB⟩:=hB
 subst hf
 exact wpAny2_of_seq tl n listed a w (Nat.le_refl _) (fun j=>by rw[htl,List.getElem?_drop,Array.getElem?_toList]) hB h
theorem wp_region_par {id:Nat} {l:List Oper} (n:Nat) (hm:P.follows .mixedOrders=true) (hsel:Region.noSelect l.toArray=true) (hn:n<l.length) (hs:Region.sinkB .any l.toArray n=true) (hc:Region.chainB .any l.toArray n=true)
  (S:World→Prop) (hS:S w.drew) (h:wpPar P l.toArray Q S n l.length (Array.replicate l.length false) a w.drew):(Code.region id l.toArray true).wp P Q a w:=by
 have T:TailOk .any l.toArray n:=⟨Region.noSelect_spec hsel,hs,hc,by simpa using hn⟩
 have inv0:HeadInv .any l.toArray n (Array.replicate l.length false):=
  ⟨by simp,fun j oj _ hj=>(by rw[getD_replicate_false] at hj;cases hj),fun t _ ht=>getD_in (by simpa using ht) (getD_replicate_false _ _)⟩
 refine wp_region_any hm (wpAny_of_2 (S:=S) (m:=n) _ _ _ _ ?_)
 have K:=h T inv0 hS
 simpa using K
end
end Go.Proofs.YtjgkegkinnlcoaaGreatDoor
namespace Go.Proofs.YtjgkegkinnlcoaaGreatDoor
open Go.RowKit
theorem owp_store_at {P:Program} {o:Oper} {a:Act} {w:World} {K:Act→World→Prop} {Q:Exit→Act→World→Prop} (ty:TypeId) (x y:Operand) (ho:o.op= .store ty x y)
  (g off n:Nat) (cells:Array Value) (hx:a.eval x= .pointer (some ⟨g,off,none⟩)) (hy:a.eval y= .agg cells)
  (t:TypeId) (G:Nat→Value) (hr:w.rowIs g t n G) (hi:(P.info? ty).map (·.size)=some cells.size) (hl:off+cells.size≤n) (h1:cells.all (·.oneCell')=true)
  (h: ∀w',w'.rowIs g t n (partF G off cells)→Touch [g] w w'→K (a.put o.dst undef) w'):Owp P o a w K Q:=by
 refine⟨?_⟩
 obtain⟨old,hg,hs,hc⟩:=hr
 have hrun:=run_storeCells_at (P:=P) g off t cells.toList 0 old w hg (by simp;omega) (fun v hv=>(Array.all_eq_true_iff_forall_mem.1 h1) v (by simpa using hv))
 have hw:K (a.put o.dst undef) (w.setRow g (old.toList.take off++cells.toList++old.toList.drop (off+cells.size)).toArray):=h _ (part_row hg hs hc hl) (setRow_touch _ _ _)
 have hv:(storeVar ty ⟨g,off,none⟩ (.agg cells)).run P w= .ok () (w.setRow g (old.toList.take off++cells.toList++old.toList.drop (off+cells.size)).toArray):=by
  cases hq:P.info? ty with
  |none=>simp[hq] at hi
  |some i=>
   have hs:cells.size=i.size:=by simp[hq] at hi;omega
   simp only[Nat.add_zero,Array.length_toList] at hrun
   simp[storeVar,sizeOf,typeInfo,hq,Value.cells,hs]
   rw[←hs]
   simpa using hrun
 unfold Oper.wp execOp
 simp only[ho,hx,hy,Instr.storeAt,Instr.sureAddr,Sem.run_bind,Sem.run_pure,Result.andThen_ok,hv]
 exact hw
theorem owp_store_node {o:Oper} {a:Act} {w:World} {K:Act→World→Prop} {Q:Exit→Act→World→Prop} (x y:Operand) (ho:o.op= .store 109 x y)
  (g:Nat) (b:Bool) (kv vv cv:Value) (n:ND) (hb:n.leaf=b) (hx:a.eval x= .pointer (some ⟨g,0,none⟩)) (hy:a.eval y= .agg #[.bool b,kv,vv,cv]) {f:Nat→Value} (hr:w.rowIs g 109 4 f) (h1:(#[.bool b,kv,vv,cv]:Array Value).all (·.oneCell')=true)
  (h: ∀w',w'.rowIs g 109 4 (ndF kv vv cv n)→Touch [g] w w'→K (a.put o.dst undef) w'):Owp Tryz.prog o a w K Q:=by
 refine owp_store_at 109 x y ho g 0 4 #[.bool b,kv,vv,cv] hx hy 109 f hr Tryz.sizeNode (show 0+4≤4 by decide) h1 (fun w' hw' ht=>h w' (World.rowIs.congr hw' (fun j hj=> ?_)) ht)
 subst hb
 rcases j with _|_|_|_|j<;>first|rfl|(exfalso;omega)
end Go.Proofs.YtjgkegkinnlcoaaGreatDoor
