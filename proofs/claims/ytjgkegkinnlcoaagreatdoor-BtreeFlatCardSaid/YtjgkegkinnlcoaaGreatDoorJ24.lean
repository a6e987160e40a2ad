/- Lemmas on the way to the statement: BtDelW, BtDelT. -/
import Derived.Test.YtjgkegkinnlcoaaGreatDoorJ23
set_option linter.unusedSimpArgs false
set_option linter.unusedVariables false
namespace Go.Proofs.YtjgkegkinnlcoaaGreatDoor
open Go.RowKit Go.Maps Go.Joins
theorem delL_zero (key:Int) (M:PM) (no:Int):delL key 0 M no=(nd0,19,M):=rfl
theorem delL_succ (key:Int) (f:Nat) (M:PM) (no:Int):delL key (f+1) M no=if (ndRead M no).1≠0 then(nd0,(ndRead M no).1,M) else
  if (ndRead M no).2.leaf=true then(if hasL (ndRead M no).2.keys key=false then(nd0,19,M) else endD M no (ndOut (ndRead M no).2 key)) else
  if (delL key f M ((ndRead M no).2.kids.getD (placeN (ndRead M no).2 key) 0)).2.1≠0 then(nd0,(delL key f M ((ndRead M no).2.kids.getD (placeN (ndRead M no).2 key) 0)).2.1,(delL key f M ((ndRead M no).2.kids.getD (placeN (ndRead M no).2 key) 0)).2.2) else
  if thinN (delL key f M ((ndRead M no).2.kids.getD (placeN (ndRead M no).2 key) 0)).1=true∧1<(ndRead M no).2.kids.length then
   (if (feedB (delL key f M ((ndRead M no).2.kids.getD (placeN (ndRead M no).2 key) 0)).2.2 (ndRead M no).2 (placeN (ndRead M no).2 key - 1)).1≠0 then(nd0,(feedB (delL key f M ((ndRead M no).2.kids.getD (placeN (ndRead M no).2 key) 0)).2.2 (ndRead M no).2 (placeN (ndRead M no).2 key - 1)).1,(feedB (delL key f M ((ndRead M no).2.kids.getD (placeN (ndRead M no).2 key) 0)).2.2 (ndRead M no).2 (placeN (ndRead M no).2 key - 1)).2.2)
    else endD (feedB (delL key f M ((ndRead M no).2.kids.getD (placeN (ndRead M no).2 key) 0)).2.2 (ndRead M no).2 (placeN (ndRead M no).2 key - 1)).2.2 no (feedB (delL key f M ((ndRead M no).2.kids.getD (placeN (ndRead M no).2 key) 0)).2.2 (ndRead M no).2 (placeN (ndRead M no).2 key - 1)).2.1)
  else endD (delL key f M ((ndRead M no).2.kids.getD (placeN (ndRead M no).2 key) 0)).2.2 no (ndRead M no).2:=rfl
theorem feed_sh {M:PM} {n:ND} {i:Nat} (h:NdSh n 40) (hl:n.leaf=false) (hi:i<n.keys.length):NdSh (feedB M n i).2.1 40:=by
 have hkey:0≤n.keys.getD i 0∧n.keys.getD i 0≤18446744073709551615:=by
  rw[List.getD_eq_getElem?_getD,List.getElem?_eq_getElem hi]
  exact h.kb _ (List.getElem_mem _)
 unfold feedB
 simp only
 split
 ·exact h
 ·rename_i h1
  split
  ·exact h
  ·rename_i h2
   split
   ·exact h
   ·rename_i h3
    have f0: ∀no,(ndRead M no).1=0→NdOk (ndRead M no).2:=fun no hok=>ndRead_ok (M:=M) (no:=no) (by rw[←hok])
    have o1:=f0 _ (show(ndRead M (n.kids.getD i 0)).1=0 by simpa using h1)
    have o2:=f0 _ (show(ndRead M (n.kids.getD (i+1) 0)).1=0 by simpa using h2)
    have hj:=NdSh.join o1.sh o2.sh (by simpa using h3) hkey
    split
    ·split
     ·exact h
     ·exact h.one hl hi
    ·rename_i h4
     have h4:fullN (joinN (ndRead M (n.kids.getD i 0)).2 (n.keys.getD i 0) (ndRead M (n.kids.getD (i+1) 0)).2)=true:=by simpa using h4
     have h5:=hj.halfK (by
      unfold fullN at h4
      simp only[Bool.or_eq_true,Bool.and_eq_true,decide_eq_true_eq] at h4
      omega)
     split
     ·exact h.setKey h5
     ·exact h.setKey h5
def DlPost (w0 w:World) (p K:Nat) (X:List Nat) (r:ND × Int × PM) (e:Ending) (w':World):Prop:=
 ∃kv vv cv,e= .returned (.tuple #[ndV kv vv cv r.1, .int .i64 r.2.1])∧NdI w' kv vv cv r.1∧PgX w0 w' p K r.2.2 X∧SameX X w w'
def DlMid (w0 wB wx:World) (p K:Nat) (X:List Nat) (b B:Nat) (no:Int) (R:ND × Int × PM):Prop:=
 ∃n M,R=endD M no n∧InsSt w0 wB wx p K M X b B n∧NdSh n 41
set_option maxRecDepth 100000 in
set_option maxHeartbeats 8000000 in
theorem bdel_any (key:Int) (hk:0≤key∧key≤18446744073709551615) (f:Nat): ∀ {w0 w:World} {p K:Nat} {M:PM} {X:List Nat} (h:PgX w0 w p K M X) (hK:K+120*f≤700000000000) (no deep:Int) (hd:deep+f=17),
  Calls Tryz.prog 57 #[.pointer (some ⟨p,0,none⟩), .int .i64 no, .int .u64 key, .int .i64 deep] w (DlPost w0 w p (K+120*f) X (delL key f M no)):=by
 induction f with
 |zero=>
  intro w0 w p K M X h hK no deep hd
  obtain rfl:deep=17:=by omega
  have HPG:=Lib.hid h
  have HX:=Lib.hid h.lt
  have hw:=h.below.size
  have HRP:=Lib.hid (node0_new w)
  clear h
  go_enter Tryz.func57,Tryz.ntmps57
  go_wp2_with (refine wpList_store_node rfl (.tmp 8) (.tmp 19) rfl w.heap.size false (.slice none 0 0) (.slice none 0 0) (.slice none 0 0) nd0 rfl rfl rfl HRP.out (by simp[Value.oneCell']) ?_;intro w9 hr9 t9;have HR9:=Lib.hid hr9;have HT9:=Lib.hid t9;clear hr9 t9)
  refine bodyPost_ret_by (res_node2 Tryz.results57 rfl HR9.out) rfl ?_
  rw[delL_zero]
  have HE:=pt_end (HPG.out.more (below_alloc (Below.refl _ _)) (Nat.le_refl _) (World.rowIs.lt HRP.out)) (SameX.refl _ _) HT9.out HX.out hw (K:=K+120*0) (by omega)
  exact⟨_,_,_,rfl,⟨IsI.nil _ _,IsI.nil _ _,IsI.nil _ _⟩,HE.1,HE.2⟩
 |succ f ih=>
  intro w0 w p K M X h hK no deep hd
  have hdd:deep≤16:=by omega
  have hdl: -100000000000≤deep:=by omega
  have HRD:=Lib.hid (bread_any (h.more (w':=w.alloc (.cells #[.bool false, .slice none 0 0, .slice none 0 0, .slice none 0 0] 109)) (below_alloc (Below.refl _ _)) (Nat.le_refl _) (by simp)) (by omega) no)
  have hdn:=fun hok:(ndRead M no).1=0=>ndRead_ok (M:=M) (no:=no) (n:=(ndRead M no).2) (by rw[←hok])
  have HX:=Lib.hid h.lt
  have HXB:=Lib.hid (show∀x∈w.heap.size::X,x<w.heap.size+1 from fun x hx=>by
   simp only[List.mem_cons] at hx
   rcases hx with rfl|hx
   ·omega
   ·have:=h.lt x hx;omega)
  have hw:=h.below.size
  have HROP:=Lib.hid (node0_new w)
  have HIH:=fun w0 w p K M X=>Lib.hid (@ih w0 w p K M X)
  obtain⟨R,hR⟩: ∃R,R=delL key (f+1) M no:=⟨_,rfl⟩
  rw[←hR]
  rw[delL_succ] at hR
  generalize ndRead M no=D at HRD hdn hR
  obtain⟨er,n⟩:=D
  simp only at HRD hdn hR
  have HDN:=Lib.hid hdn
  have HR:=Lib.hid hR
  clear hdn ih h hR
  go_enter Tryz.func57,Tryz.ntmps57
  go_wp2_with fail
  refine HRD.out.mono ?_
  rintro e w2 ⟨kv,vv,cv,rfl,ho,hp,hs⟩
  obtain⟨ka,kc,rfl⟩:=ho.i.ks.form
  obtain⟨va,vc,rfl⟩:=ho.i.vs.form
  obtain⟨ca,cc,rfl⟩:=ho.i.cs.form
  rw[World.size_alloc_eq] at ho
  have HO:=Lib.hid ho
  have HP2:=Lib.hid hp
  have HS2:=Lib.hid hs
  clear ho hp hs HRD
  unfold ndV
  by_cases her:er=0
  rotate_left
  ·have d2:(er != 0)=true:=by simpa using her
   have hq:R=(nd0,er,M):=by rw[HR.out,if_pos her]
   subst hq
   go_wp2_with (first|(refine wpList_store_node rfl (.tmp 10) (.tmp 24) rfl w2.heap.size n.leaf (.slice ka n.keys.length kc) (.slice va n.vals.length vc) (.slice ca n.kids.length cc) n (by first|rfl|exact hl) rfl rfl (node0_new w2) (by simp[Value.oneCell']) ?_;intro w3 hr3 t3;have HIN:=Lib.hid (InSt.of_read HO.out HP2.out (by omega) HXB.out HS2.out (Nat.le_refl _) hr3 (((Touch.refl [w2.heap.size] w2).alloc _).trans t3 (fun b hb=> .inl hb)));obtain⟨c0,c1,c2,c3⟩:=ndF_cells hr3;have HRP:=Lib.hid (HIN.out.sx.row HROP.out (by simp));clear hr3 t3)|(refine wpList_store_node rfl (.tmp 8) (.tmp 28) rfl w.heap.size false (.slice none 0 0) (.slice none 0 0) (.slice none 0 0) nd0 rfl rfl rfl HRP.out (by simp[Value.oneCell']) ?_;intro w9 hr9 t9;have HR9:=Lib.hid hr9;have HT9:=Lib.hid t9;clear hr9 t9))
   refine bodyPost_ret_by (res_node2 Tryz.results57 rfl HR9.out) rfl ?_
   have HE:=pt_end HIN.out.pgX HIN.out.sx HT9.out HX.out hw (K:=K+120*(f+1)) (by omega)
   exact⟨_,_,_,rfl,⟨IsI.nil _ _,IsI.nil _ _,IsI.nil _ _⟩,HE.1,HE.2⟩
  subst her
  have hok:=HDN.out rfl
  have hq:=HR.out
  rw[if_neg (by simp)] at hq
  have HBX:=Lib.hid (show w.heap.size+1≤w2.heap.size by have:=HS2.out.size;rw[World.size_alloc_eq] at this;exact this)
  cases hl:n.leaf
  ·have HQ00:=Lib.hid hq
   clear hq
   go_upto_if 31 with (refine wpList_store_node rfl (.tmp 10) (.tmp 24) rfl w2.heap.size false (.slice ka n.keys.length kc) (.slice va n.vals.length vc) (.slice ca n.kids.length cc) n (by first|rfl|exact hl) rfl rfl (node0_new w2) (by simp[Value.oneCell']) ?_;intro w3 hr3 t3;have HIN:=Lib.hid (InSt.of_read HO.out HP2.out (by omega) HXB.out HS2.out (Nat.le_refl _) hr3 (((Touch.refl [w2.heap.size] w2).alloc _).trans t3 (fun b hb=> .inl hb)));obtain⟨c0,c1,c2,c3⟩:=ndF_cells hr3;have HRP:=Lib.hid (HIN.out.sx.row HROP.out (by simp));clear hr3 t3)
   go_cut [31] (fun _ wx=>DlMid w0 (w.alloc (.cells #[.bool false, .slice none 0 0, .slice none 0 0, .slice none 0 0] 109)) wx p (K+120*f+104) (w.heap.size::X) w2.heap.size (w.heap.size+1) no R)
   case rest=>
    obtain⟨n',M',hq,hI,hsh⟩:=hcut
    obtain⟨ak,akc,av,avc,ac,acc,hI⟩:=hI
    have HI5:=Lib.hid hI
    have HSN:=Lib.hid hsh
    have HQE:=Lib.hid hq
    have HRP:=Lib.hid (hI.sx.row HROP.out (by simp))
    obtain⟨c0,c1,c2,c3⟩:=ndF_cells hI.box
    clear hq hI hsh
    by_cases hz:n'.keys.length=0
    ·have HZ0:=Lib.hid hz
     rw[hz] at c1 HI5
     clear hz
     cases hl2:n'.leaf
     ·have HWR:=Lib.hid (bwrite_any (no:=no) (HI5.out.pg.moveX ((Touch.refl [] wc).drew.below (Nat.le_refl _) (by simp))) (by omega) ((HI5.out.nodeI n'.leaf).below ((Touch.refl [] wc).drew.below (Nat.le_refl _) (by simp))) HSN.out (by omega))
      have hq:R=(n',(writeB M' no n').1,(writeB M' no n').2):=by rw[HQE.out];unfold endD;rw[if_neg (by rw[hl2];simp)]
      generalize writeB M' no n'=F at HWR hq
      obtain⟨ew,M9⟩:=F
      try simp only at HWR hq
      unfold ndV at HWR
      rw[hl2] at HWR
      skip
      subst hq
      have hS:(fun w':World=>w'.cell? ⟨w2.heap.size,0,none⟩=some (.bool false)∧w'.cell? ⟨w2.heap.size,1,none⟩=some (.slice ak 0 akc)∧w'.cell? ⟨w2.heap.size,2,none⟩=some (.slice av n'.vals.length avc)∧w'.cell? ⟨w2.heap.size,3,none⟩=some (.slice ac n'.kids.length acc)) wc.drew:=⟨by rw[←hl2];exact c0,c1,c2,c3⟩
      have HS0:=Lib.hid hS
      clear hS
      rw[hl2] at c0
      go_wp2_with fail
      refine wp_region_noPanic ?_
      refine wp_region_par3 5 5 (by kernel_rfl) (by kernel_rfl) (by simp) (by omega) (by kernel_rfl) (by kernel_rfl) (fun w':World=>w'.cell? ⟨w2.heap.size,0,none⟩=some (.bool false)∧w'.cell? ⟨w2.heap.size,1,none⟩=some (.slice ak 0 akc)∧w'.cell? ⟨w2.heap.size,2,none⟩=some (.slice av n'.vals.length avc)∧w'.cell? ⟨w2.heap.size,3,none⟩=some (.slice ac n'.kids.length acc)) ?_
      refine par3_read (v:= ?_) 0 (by simp only[zga,zgb,zgc];rfl) (by kernel_rfl) (by rfl) HS0.out ?_ (fun _ _ _ h=>h) ?_
      rotate_left
      ·(intro w9 hSw;(try dsimp only at hSw);go_simp;try with_reducible rfl)
      simp only[Act.put,zpa,zpb,zpc]
      refine par3_move (v:= ?_) 1 (by simp only[zga,zgb,zgc];rfl) (by kernel_rfl) (by rfl) ?_ (fun _ _ _ h=>h) ?_
      rotate_left
      ·(intro w9;go_simp;try with_reducible rfl)
      simp only[Act.put,zpa,zpb,zpc]
      refine par3_move (v:= ?_) 2 (by simp only[zga,zgb,zgc];rfl) (by kernel_rfl) (by rfl) ?_ (fun _ _ _ h=>h) ?_
      rotate_left
      ·(intro w9;go_simp;try with_reducible rfl)
      simp only[Act.put,zpa,zpb,zpc]
      refine par3_read (v:= ?_) 3 (by simp only[zga,zgb,zgc];rfl) (by kernel_rfl) (by rfl) HS0.out ?_ (fun _ _ _ h=>h) ?_
      rotate_left
      ·(intro w9 hSw;(try dsimp only at hSw);go_simp;try with_reducible rfl)
      simp only[Act.put,zpa,zpb,zpc]
      clear c0 c1 c2 c3
      refine par3_one 4 (by simp only[zga,zgb,zgc];rfl) (by kernel_rfl) (by rfl) ?_
      refine owp_call (by go_simp;constructor<;>rfl) ?_
      refine HWR.out.mono ?_
      rintro e W13 ⟨rfl,hp,hs⟩
      have HI13:=Lib.hid ((HI5.out.below ((Touch.refl [] wc).drew.below (Nat.le_refl _) (by simp))).go hp hs)
      have HRP:=Lib.hid (HI13.out.sx.row HROP.out (by simp))
      refine⟨_,rfl,fun s _=>⟨(hs.cell (by simp)).trans s.1,(hs.cell (by simp)).trans s.2.1,(hs.cell (by simp)).trans s.2.2.1,(hs.cell (by simp)).trans s.2.2.2⟩, ?_⟩
      clear hp hs
      simp only[Act.put,zpa,zpb,zpc]
      refine par3_tail _ (by simp only[List.drop_succ_cons,List.drop_zero];rfl) (by kernel_rfl) ?_
      skip
      go_wp2_with (refine wpList_store_node rfl (.tmp 8) (.tmp 102) rfl w.heap.size false (.slice ak 0 akc) (.slice av n'.vals.length avc) (.slice ac n'.kids.length acc) n' (by first|rfl|exact hl2) rfl rfl HRP.out (by simp[Value.oneCell']) ?_;intro w9 hr9 t9;have HR9:=Lib.hid hr9;have HT9:=Lib.hid t9;clear hr9 t9)
      refine NoPanic.normal ?_
      go_wp2_with fail
      refine bodyPost_ret_by (res_node2 Tryz.results57 rfl HR9.out) rfl ?_
      have HE:=pt_end HI13.out.pgX HI13.out.sx HT9.out HX.out hw (K:=K+120*(f+1)) (by omega)
      have hni:=(HI13.out.nodeI n'.leaf).touch HT9.out (fun q hq hm=>by simp at hm;subst hm;exact(HI13.out.xx w.heap.size (by simp)).1 hq)
      skip
      exact⟨_,_,_,rfl,hni,HE.1,HE.2⟩
     ·have hq:R=(n',0,M'):=by rw[HQE.out];unfold endD;rw[if_pos ⟨HZ0.out,hl2⟩]
      subst hq
      rw[hl2] at c0
      go_wp2_with (refine wpList_store_node rfl (.tmp 8) (.tmp 101) rfl w.heap.size true (.slice ak 0 akc) (.slice av n'.vals.length avc) (.slice ac n'.kids.length acc) n' (by first|rfl|exact hl2) rfl rfl HRP.out (by simp[Value.oneCell']) ?_;intro w9 hr9 t9;have HR9:=Lib.hid hr9;have HT9:=Lib.hid t9;clear hr9 t9)
      refine bodyPost_ret_by (res_node2 Tryz.results57 rfl HR9.out) rfl ?_
      have HE:=pt_end HI5.out.pgX HI5.out.sx HT9.out HX.out hw (K:=K+120*(f+1)) (by omega)
      have hni:=(HI5.out.nodeI n'.leaf).touch HT9.out (fun q hq hm=>by simp at hm;subst hm;exact(HI5.out.xx w.heap.size (by simp)).1 hq)
      exact⟨_,_,_,rfl,hni,HE.1,HE.2⟩
    ·have d8:((n'.keys.length:Int)==0)=false:=by simpa using hz
     cases hl2:n'.leaf
     ·have HWR:=Lib.hid (bwrite_any (no:=no) (HI5.out.pg.moveX ((Touch.refl [] wc).drew.below (Nat.le_refl _) (by simp))) (by omega) ((HI5.out.nodeI n'.leaf).below ((Touch.refl [] wc).drew.below (Nat.le_refl _) (by simp))) HSN.out (by omega))
      have hq:R=(n',(writeB M' no n').1,(writeB M' no n').2):=by rw[HQE.out];unfold endD;rw[if_neg (by rw[hl2];simp)]
      generalize writeB M' no n'=F at HWR hq
      obtain⟨ew,M9⟩:=F
      try simp only at HWR hq
      unfold ndV at HWR
      rw[hl2] at HWR
      skip
      subst hq
      have hS:(fun w':World=>w'.cell? ⟨w2.heap.size,0,none⟩=some (.bool false)∧w'.cell? ⟨w2.heap.size,1,none⟩=some (.slice ak n'.keys.length akc)∧w'.cell? ⟨w2.heap.size,2,none⟩=some (.slice av n'.vals.length avc)∧w'.cell? ⟨w2.heap.size,3,none⟩=some (.slice ac n'.kids.length acc)) wc.drew:=⟨by rw[←hl2];exact c0,c1,c2,c3⟩
      have HS0:=Lib.hid hS
      clear hS
      rw[hl2] at c0
      go_wp2_with fail
      refine wp_region_noPanic ?_
      refine wp_region_par3 5 5 (by kernel_rfl) (by kernel_rfl) (by simp) (by omega) (by kernel_rfl) (by kernel_rfl) (fun w':World=>w'.cell? ⟨w2.heap.size,0,none⟩=some (.bool false)∧w'.cell? ⟨w2.heap.size,1,none⟩=some (.slice ak n'.keys.length akc)∧w'.cell? ⟨w2.heap.size,2,none⟩=some (.slice av n'.vals.length avc)∧w'.cell? ⟨w2.heap.size,3,none⟩=some (.slice ac n'.kids.length acc)) ?_
      refine par3_read (v:= ?_) 0 (by simp only[zga,zgb,zgc];rfl) (by kernel_rfl) (by rfl) HS0.out ?_ (fun _ _ _ h=>h) ?_
      rotate_left
      ·(intro w9 hSw;(try dsimp only at hSw);go_simp;try with_reducible rfl)
      simp only[Act.put,zpa,zpb,zpc]
      refine par3_move (v:= ?_) 1 (by simp only[zga,zgb,zgc];rfl) (by kernel_rfl) (by rfl) ?_ (fun _ _ _ h=>h) ?_
      rotate_left
      ·(intro w9;go_simp;try with_reducible rfl)
      simp only[Act.put,zpa,zpb,zpc]
      refine par3_move (v:= ?_) 2 (by simp only[zga,zgb,zgc];rfl) (by kernel_rfl) (by rfl) ?_ (fun _ _ _ h=>h) ?_
      rotate_left
      ·(intro w9;go_simp;try with_reducible rfl)
      simp only[Act.put,zpa,zpb,zpc]
      refine par3_read (v:= ?_) 3 (by simp only[zga,zgb,zgc];rfl) (by kernel_rfl) (by rfl) HS0.out ?_ (fun _ _ _ h=>h) ?_
      rotate_left
      ·(intro w9 hSw;(try dsimp only at hSw);go_simp;try with_reducible rfl)
      simp only[Act.put,zpa,zpb,zpc]
      clear c0 c1 c2 c3
      refine par3_one 4 (by simp only[zga,zgb,zgc];rfl) (by kernel_rfl) (by rfl) ?_
      refine owp_call (by go_simp;constructor<;>rfl) ?_
      refine HWR.out.mono ?_
      rintro e W13 ⟨rfl,hp,hs⟩
      have HI13:=Lib.hid ((HI5.out.below ((Touch.refl [] wc).drew.below (Nat.le_refl _) (by simp))).go hp hs)
      have HRP:=Lib.hid (HI13.out.sx.row HROP.out (by simp))
      refine⟨_,rfl,fun s _=>⟨(hs.cell (by simp)).trans s.1,(hs.cell (by simp)).trans s.2.1,(hs.cell (by simp)).trans s.2.2.1,(hs.cell (by simp)).trans s.2.2.2⟩, ?_⟩
      clear hp hs
      simp only[Act.put,zpa,zpb,zpc]
      refine par3_tail _ (by simp only[List.drop_succ_cons,List.drop_zero];rfl) (by kernel_rfl) ?_
      skip
      go_wp2_with (refine wpList_store_node rfl (.tmp 8) (.tmp 102) rfl w.heap.size false (.slice ak n'.keys.length akc) (.slice av n'.vals.length avc) (.slice ac n'.kids.length acc) n' (by first|rfl|exact hl2) rfl rfl HRP.out (by simp[Value.oneCell']) ?_;intro w9 hr9 t9;have HR9:=Lib.hid hr9;have HT9:=Lib.hid t9;clear hr9 t9)
      refine NoPanic.normal ?_
      go_wp2_with fail
      refine bodyPost_ret_by (res_node2 Tryz.results57 rfl HR9.out) rfl ?_
      have HE:=pt_end HI13.out.pgX HI13.out.sx HT9.out HX.out hw (K:=K+120*(f+1)) (by omega)
      have hni:=(HI13.out.nodeI n'.leaf).touch HT9.out (fun q hq hm=>by simp at hm;subst hm;exact(HI13.out.xx w.heap.size (by simp)).1 hq)
      skip
      exact⟨_,_,_,rfl,hni,HE.1,HE.2⟩
     ·have HWR:=Lib.hid (bwrite_any (no:=no) (HI5.out.pg.moveX ((Touch.refl [] wc).drew.below (Nat.le_refl _) (by simp))) (by omega) ((HI5.out.nodeI n'.leaf).below ((Touch.refl [] wc).drew.below (Nat.le_refl _) (by simp))) HSN.out (by omega))
      have hq:R=(n',(writeB M' no n').1,(writeB M' no n').2):=by rw[HQE.out];unfold endD;rw[if_neg (fun hh=>hz hh.1)]
      generalize writeB M' no n'=F at HWR hq
      obtain⟨ew,M9⟩:=F
      try simp only at HWR hq
      unfold ndV at HWR
      rw[hl2] at HWR
      skip
      subst hq
      have hS:(fun w':World=>w'.cell? ⟨w2.heap.size,0,none⟩=some (.bool true)∧w'.cell? ⟨w2.heap.size,1,none⟩=some (.slice ak n'.keys.length akc)∧w'.cell? ⟨w2.heap.size,2,none⟩=some (.slice av n'.vals.length avc)∧w'.cell? ⟨w2.heap.size,3,none⟩=some (.slice ac n'.kids.length acc)) wc.drew:=⟨by rw[←hl2];exact c0,c1,c2,c3⟩
      have HS0:=Lib.hid hS
      clear hS
      rw[hl2] at c0
      go_wp2_with fail
      refine wp_region_noPanic ?_
      refine wp_region_par3 5 5 (by kernel_rfl) (by kernel_rfl) (by simp) (by omega) (by kernel_rfl) (by kernel_rfl) (fun w':World=>w'.cell? ⟨w2.heap.size,0,none⟩=some (.bool true)∧w'.cell? ⟨w2.heap.size,1,none⟩=some (.slice ak n'.keys.length akc)∧w'.cell? ⟨w2.heap.size,2,none⟩=some (.slice av n'.vals.length avc)∧w'.cell? ⟨w2.heap.size,3,none⟩=some (.slice ac n'.kids.length acc)) ?_
      refine par3_read (v:= ?_) 0 (by simp only[zga,zgb,zgc];rfl) (by kernel_rfl) (by rfl) HS0.out ?_ (fun _ _ _ h=>h) ?_
      rotate_left
      ·(intro w9 hSw;(try dsimp only at hSw);go_simp;try with_reducible rfl)
      simp only[Act.put,zpa,zpb,zpc]
      refine par3_move (v:= ?_) 1 (by simp only[zga,zgb,zgc];rfl) (by kernel_rfl) (by rfl) ?_ (fun _ _ _ h=>h) ?_
      rotate_left
      ·(intro w9;go_simp;try with_reducible rfl)
      simp only[Act.put,zpa,zpb,zpc]
      refine par3_move (v:= ?_) 2 (by simp only[zga,zgb,zgc];rfl) (by kernel_rfl) (by rfl) ?_ (fun _ _ _ h=>h) ?_
      rotate_left
      ·(intro w9;go_simp;try with_reducible rfl)
      simp only[Act.put,zpa,zpb,zpc]
      refine par3_read (v:= ?_) 3 (by simp only[zga,zgb,zgc];rfl) (by kernel_rfl) (by rfl) HS0.out ?_ (fun _ _ _ h=>h) ?_
      rotate_left
      ·(intro w9 hSw;(try dsimp only at hSw);go_simp;try with_reducible rfl)
      simp only[Act.put,zpa,zpb,zpc]
      clear c0 c1 c2 c3
      refine par3_one 4 (by simp only[zga,zgb,zgc];rfl) (by kernel_rfl) (by rfl) ?_
      refine owp_call (by go_simp;constructor<;>rfl) ?_
      refine HWR.out.mono ?_
      rintro e W13 ⟨rfl,hp,hs⟩
      have HI13:=Lib.hid ((HI5.out.below ((Touch.refl [] wc).drew.below (Nat.le_refl _) (by simp))).go hp hs)
      have HRP:=Lib.hid (HI13.out.sx.row HROP.out (by simp))
      refine⟨_,rfl,fun s _=>⟨(hs.cell (by simp)).trans s.1,(hs.cell (by simp)).trans s.2.1,(hs.cell (by simp)).trans s.2.2.1,(hs.cell (by simp)).trans s.2.2.2⟩, ?_⟩
      clear hp hs
      simp only[Act.put,zpa,zpb,zpc]
      refine par3_tail _ (by simp only[List.drop_succ_cons,List.drop_zero];rfl) (by kernel_rfl) ?_
      skip
      go_wp2_with (refine wpList_store_node rfl (.tmp 8) (.tmp 102) rfl w.heap.size true (.slice ak n'.keys.length akc) (.slice av n'.vals.length avc) (.slice ac n'.kids.length acc) n' (by first|rfl|exact hl2) rfl rfl HRP.out (by simp[Value.oneCell']) ?_;intro w9 hr9 t9;have HR9:=Lib.hid hr9;have HT9:=Lib.hid t9;clear hr9 t9)
      refine NoPanic.normal ?_
      go_wp2_with fail
      refine bodyPost_ret_by (res_node2 Tryz.results57 rfl HR9.out) rfl ?_
      have HE:=pt_end HI13.out.pgX HI13.out.sx HT9.out HX.out hw (K:=K+120*(f+1)) (by omega)
      have hni:=(HI13.out.nodeI n'.leaf).touch HT9.out (fun q hq hm=>by simp at hm;subst hm;exact(HI13.out.xx w.heap.size (by simp)).1 hq)
      skip
      exact⟨_,_,_,rfl,hni,HE.1,HE.2⟩
   have hq:=HQ00.out
   obtain⟨k1,k2,k3,k4⟩:=hok.forks hl
   rw[if_neg (by rw[hl];decide)] at hq
   have HPC:=fun(w':World) (h:NdI w' (.slice ka n.keys.length kc) (.slice va n.vals.length vc) (.slice ca n.kids.length cc) n)=>Lib.hid (place_any key h hok.pw (by omega))
   simp only[ndV,hl] at HPC
   have HPLE:=Lib.hid (placeN_le hok.pw key)
   obtain⟨P,hP⟩: ∃P,P=placeN n key:=⟨_,rfl⟩
   rw[←hP] at hq HPLE
   simp only[←hP] at HPC
   obtain⟨G,hG⟩: ∃G,G=delL key f M (n.kids.getD P 0):=⟨_,rfl⟩
   rw[←hG] at hq
   have HDEL:=fun(w':World) (J:Nat) (Y:List Nat) (h:PgX w0 w' p J M Y) (hJ:J+120*f≤700000000000)=>Lib.hid (show Calls Tryz.prog 57 #[.pointer (some ⟨p,0,none⟩), .int .i64 (n.kids.getD P 0), .int .u64 key, .int .i64 (deep+1)] w' (DlPost w0 w' p (J+120*f) Y G) by rw[hG];exact(HIH w0 w' p J M Y).out h hJ (n.kids.getD P 0) (deep+1) (by omega))
   obtain⟨kn,ke,M6⟩:=G
   simp only at hq
   have HQ:=Lib.hid hq
   have HK1:=Lib.hid hok.k1
   have HK2:=Lib.hid k2
   have HK3:=Lib.hid k3
   have HSN0:=Lib.hid hok.sh
   have HHL:=Lib.hid hl
   clear hq hok k1 k2 k3 k4 hP hG HR HIH HDN
   go_wp2_with fail
   refine(HPC _ (HIN.out.nodeI n.leaf)).out.mono ?_
   rintro e w4 ⟨rfl,hd⟩
   have HI4:=Lib.hid (HIN.out.below hd)
   clear hd c0 c1 c2 c3 HPC HRP
   obtain⟨c0,c1,c2,c3⟩:=ndF_cells HI4.out.box
   have hcs:=HI4.out.cs
   obtain⟨g,cg,hv⟩:=ownsRow_form hcs (by have:=HK2.out;omega)
   injection hv with hva hvn hvc
   subst hva
   subst hvc
   obtain⟨-,hnc, -, -,ff,hff,hfx⟩:=ownsRow_rowIs hcs
   have hcc:=World.rowIs.cell hff (i:=P) (by have:=HK2.out;have:=HPLE.out;omega)
   have hfp:ff P= .int .i64 (n.kids.getD P 0):=by
    have:=hfx P (by have:=HK2.out;have:=HPLE.out;omega)
    rw[List.getElem?_map,getElem?_getD (by have:=HK2.out;have:=HPLE.out;omega)] at this
    simpa using this.symm
   rw[hfp] at hcc
   have y1:(P:Int)<(n.kids.length:Int):=by have:=HK2.out;have:=HPLE.out;omega
   clear hff hfx hcs hfp hvn hnc
   go_wp2_with fail
   refine(HDEL _ _ _ HI4.out.pg (by omega)).out.mono ?_
   rintro e w6 ⟨xk,xv,xc,rfl,hxn,hp6,hs6⟩
   obtain⟨xk,xkc,rfl⟩:=hxn.ks.form
   obtain⟨xv,xvc,rfl⟩:=hxn.vs.form
   obtain⟨xc,xcc,rfl⟩:=hxn.cs.form
   have HXN:=Lib.hid hxn
   have HI6:=Lib.hid (HI4.out.go hp6 hs6)
   clear hp6 hs6 hxn hcc c0 c1 c2 c3 HDEL
   unfold ndV
   by_cases hke:ke=0
   rotate_left
   ·have d6:(ke==0)=false:=by simpa using hke
    have d7:(ke != 0)=true:=by simpa using hke
    have hq:R=(nd0,ke,M6):=by rw[HQ.out,if_pos hke]
    subst hq
    go_wp2_with (first|(refine wpList_store_node rfl (.tmp 15) (.tmp 70) rfl w6.heap.size kn.leaf (.slice xk kn.keys.length xkc) (.slice xv kn.vals.length xvc) (.slice xc kn.kids.length xcc) kn rfl rfl rfl (node0_new w6) (by simp[Value.oneCell']) ?_;intro w7 hr7 t7;have HB7:=Lib.hid ((((Touch.refl [w6.heap.size] w6).alloc _).trans t7 (fun b hb=> .inl hb)).below (Nat.le_refl _) (fun x hx=>by simp at hx;omega));have HI7:=Lib.hid (HI6.out.below HB7.out);obtain⟨r0,r1,r2,r3⟩:=ndF_cells hr7;obtain⟨c0,c1,c2,c3⟩:=ndF_cells HI7.out.box;have HRP:=Lib.hid (HI7.out.sx.row HROP.out (by simp));clear hr7 t7)|(refine wpList_store_node rfl (.tmp 8) (.tmp 91) rfl w.heap.size false (.slice none 0 0) (.slice none 0 0) (.slice none 0 0) nd0 rfl rfl rfl HRP.out (by simp[Value.oneCell']) ?_;intro w9 hr9 t9;have HR9:=Lib.hid hr9;have HT9:=Lib.hid t9;clear hr9 t9))
    refine bodyPost_ret_by (res_node2 Tryz.results57 rfl HR9.out) rfl ?_
    have HE:=pt_end HI7.out.pgX HI7.out.sx HT9.out HX.out hw (K:=K+120*(f+1)) (by omega)
    exact⟨_,_,_,rfl,⟨IsI.nil _ _,IsI.nil _ _,IsI.nil _ _⟩,HE.1,HE.2⟩
   subst hke
   have hq:=HQ.out
   rw[if_neg (by simp)] at hq
   have HQ1:=Lib.hid hq
   clear hq HQ
   go_wp2_with (refine wpList_store_node rfl (.tmp 15) (.tmp 70) rfl w6.heap.size kn.leaf (.slice xk kn.keys.length xkc) (.slice xv kn.vals.length xvc) (.slice xc kn.kids.length xcc) kn rfl rfl rfl (node0_new w6) (by simp[Value.oneCell']) ?_;intro w7 hr7 t7;have HB7:=Lib.hid ((((Touch.refl [w6.heap.size] w6).alloc _).trans t7 (fun b hb=> .inl hb)).below (Nat.le_refl _) (fun x hx=>by simp at hx;omega));have HI7:=Lib.hid (HI6.out.below HB7.out);obtain⟨r0,r1,r2,r3⟩:=ndF_cells hr7;obtain⟨c0,c1,c2,c3⟩:=ndF_cells HI7.out.box;have HRP:=Lib.hid (HI7.out.sx.row HROP.out (by simp));clear hr7 t7)
   have HTH:=thin_any (HXN.out.below HB7.out)
   unfold ndV at HTH
   obtain⟨T,hT⟩: ∃T,T=thinN kn:=⟨_,rfl⟩
   rw[←hT] at HTH
   have HT:=Lib.hid hT
   have HTH:=Lib.hid HTH
   clear hT
   refine HTH.out.mono ?_
   rintro e w8 ⟨rfl,hb⟩
   have HI8:=Lib.hid (HI7.out.below hb)
   have HRP:=Lib.hid (HI8.out.sx.row HROP.out (by simp))
   clear hb c0 c1 c2 c3 r0 r1 r2 r3 HTH
   obtain⟨c0,c1,c2,c3⟩:=ndF_cells HI8.out.box
   cases T
   ·have hq:R=endD M6 no n:=by rw[HQ1.out,if_neg (by rw[←HT.out];simp)]
    have HQ2:=Lib.hid hq
    clear hq
    go_wp2_with fail
    go_meet
    exact⟨n,M6,HQ2.out,InsSt.of HI8.out (by omega),HSN0.out.mono (by omega)⟩
   ·by_cases hk1:1<n.kids.length
    rotate_left
    ·have hq:R=endD M6 no n:=by rw[HQ1.out,if_neg (fun h=>hk1 h.2)]
     have HQ2:=Lib.hid hq
     have z1: ¬((1:Int)<(n.kids.length:Int)):=by omega
     clear hq
     go_wp2_with fail
     go_meet
     exact⟨n,M6,HQ2.out,InsSt.of HI8.out (by omega),HSN0.out.mono (by omega)⟩
    have hq:=HQ1.out
    rw[if_pos ⟨HT.out.symm,hk1⟩] at hq
    have z1:(1:Int)<(n.kids.length:Int):=by omega
    have HFD:=Lib.hid (bfeed_any (i:=P - 1) (InsSt.of HI8.out (Nat.le_refl _)) (by omega) hl HSN0.out (by have:=HK1.out;have:=HPLE.out;omega))
    have HFS:=Lib.hid (feed_sh (M:=M6) (i:=P - 1) HSN0.out HHL.out (by have:=HK1.out;have:=HPLE.out;omega))
    have hmx:max ((P:Int) - 1) 0=((P - 1:Nat):Int):=by omega
    have hp1:P≤1000:=by have:=HPLE.out;have:=HK3.out;omega
    generalize feedB M6 n (P - 1)=F at HFD HFS hq
    obtain⟨fe,fn,M8⟩:=F
    try simp only at HFD HFS hq
    have HQ2:=Lib.hid hq
    clear hq HQ1
    go_wp2_with fail
    refine HFD.out.mono ?_
    rintro e w9 ⟨rfl,hin⟩
    obtain⟨q1,q2,q3,q4,q5,q6,hin⟩:=hin
    have HI9:=Lib.hid hin
    have HRP:=Lib.hid (hin.sx.row HROP.out (by simp))
    clear hin c0 c1 c2 c3 HFD
    by_cases hfe:fe=0
    rotate_left
    ·have d8:(fe != 0)=true:=by simpa using hfe
     have hq:R=(nd0,fe,M8):=by rw[HQ2.out,if_pos hfe]
     subst hq
     go_wp2_with (refine wpList_store_node rfl (.tmp 8) (.tmp 91) rfl w.heap.size false (.slice none 0 0) (.slice none 0 0) (.slice none 0 0) nd0 rfl rfl rfl HRP.out (by simp[Value.oneCell']) ?_;intro w9 hr9 t9;have HR9:=Lib.hid hr9;have HT9:=Lib.hid t9;clear hr9 t9)
     refine bodyPost_ret_by (res_node2 Tryz.results57 rfl HR9.out) rfl ?_
     have HE:=pt_end HI9.out.pgX HI9.out.sx HT9.out HX.out hw (K:=K+120*(f+1)) (by omega)
     exact⟨_,_,_,rfl,⟨IsI.nil _ _,IsI.nil _ _,IsI.nil _ _⟩,HE.1,HE.2⟩
    subst hfe
    have hq:R=endD M8 no fn:=by rw[HQ2.out,if_neg (by simp)]
    have HQ3:=Lib.hid hq
    clear hq HQ2
    go_wp2_with fail
    go_meet
    exact⟨fn,M8,HQ3.out,⟨q1,q2,q3,q4,q5,q6,HI9.out.monoK (by omega)⟩,HFS.out.mono (by omega)⟩
  ·have HQ00:=Lib.hid hq
   clear hq
   go_upto_if 31 with (refine wpList_store_node rfl (.tmp 10) (.tmp 24) rfl w2.heap.size true (.slice ka n.keys.length kc) (.slice va n.vals.length vc) (.slice ca n.kids.length cc) n (by first|rfl|exact hl) rfl rfl (node0_new w2) (by simp[Value.oneCell']) ?_;intro w3 hr3 t3;have HIN:=Lib.hid (InSt.of_read HO.out HP2.out (by omega) HXB.out HS2.out (Nat.le_refl _) hr3 (((Touch.refl [w2.heap.size] w2).alloc _).trans t3 (fun b hb=> .inl hb)));obtain⟨c0,c1,c2,c3⟩:=ndF_cells hr3;have HRP:=Lib.hid (HIN.out.sx.row HROP.out (by simp));clear hr3 t3)
   go_cut [31] (fun _ wx=>DlMid w0 (w.alloc (.cells #[.bool false, .slice none 0 0, .slice none 0 0, .slice none 0 0] 109)) wx p (K+120*f+104) (w.heap.size::X) w2.heap.size (w.heap.size+1) no R)
   case rest=>
    obtain⟨n',M',hq,hI,hsh⟩:=hcut
    obtain⟨ak,akc,av,avc,ac,acc,hI⟩:=hI
    have HI5:=Lib.hid hI
    have HSN:=Lib.hid hsh
    have HQE:=Lib.hid hq
    have HRP:=Lib.hid (hI.sx.row HROP.out (by simp))
    obtain⟨c0,c1,c2,c3⟩:=ndF_cells hI.box
    clear hq hI hsh
    by_cases hz:n'.keys.length=0
    ·have HZ0:=Lib.hid hz
     rw[hz] at c1 HI5
     clear hz
     cases hl2:n'.leaf
     ·have HWR:=Lib.hid (bwrite_any (no:=no) (HI5.out.pg.moveX ((Touch.refl [] wc).drew.below (Nat.le_refl _) (by simp))) (by omega) ((HI5.out.nodeI n'.leaf).below ((Touch.refl [] wc).drew.below (Nat.le_refl _) (by simp))) HSN.out (by omega))
      have hq:R=(n',(writeB M' no n').1,(writeB M' no n').2):=by rw[HQE.out];unfold endD;rw[if_neg (by rw[hl2];simp)]
      generalize writeB M' no n'=F at HWR hq
      obtain⟨ew,M9⟩:=F
      try simp only at HWR hq
      unfold ndV at HWR
      rw[hl2] at HWR
      skip
      subst hq
      have hS:(fun w':World=>w'.cell? ⟨w2.heap.size,0,none⟩=some (.bool false)∧w'.cell? ⟨w2.heap.size,1,none⟩=some (.slice ak 0 akc)∧w'.cell? ⟨w2.heap.size,2,none⟩=some (.slice av n'.vals.length avc)∧w'.cell? ⟨w2.heap.size,3,none⟩=some (.slice ac n'.kids.length acc)) wc.drew:=⟨by rw[←hl2];exact c0,c1,c2,c3⟩
      have HS0:=Lib.hid hS
      clear hS
      rw[hl2] at c0
      go_wp2_with fail
      refine wp_region_noPanic ?_
      refine wp_region_par3 5 5 (by kernel_rfl) (by kernel_rfl) (by simp) (by omega) (by kernel_rfl) (by kernel_rfl) (fun w':World=>w'.cell? ⟨w2.heap.size,0,none⟩=some (.bool false)∧w'.cell? ⟨w2.heap.size,1,none⟩=some (.slice ak 0 akc)∧w'.cell? ⟨w2.heap.size,2,none⟩=some (.slice av n'.vals.length avc)∧w'.cell? ⟨w2.heap.size,3,none⟩=some (.slice ac n'.kids.length acc)) ?_
      refine par3_read (v:= ?_) 0 (by simp only[zga,zgb,zgc];rfl) (by kernel_rfl) (by rfl) HS0.out ?_ (fun _ _ _ h=>h) ?_
      rotate_left
      ·(intro w9 hSw;(try dsimp only at hSw);go_simp;try with_reducible rfl)
      simp only[Act.put,zpa,zpb,zpc]
      refine par3_move (v:= ?_) 1 (by simp only[zga,zgb,zgc];rfl) (by kernel_rfl) (by rfl) ?_ (fun _ _ _ h=>h) ?_
      rotate_left
      ·(intro w9;go_simp;try with_reducible rfl)
      simp only[Act.put,zpa,zpb,zpc]
      refine par3_move (v:= ?_) 2 (by simp only[zga,zgb,zgc];rfl) (by kernel_rfl) (by rfl) ?_ (fun _ _ _ h=>h) ?_
      rotate_left
      ·(intro w9;go_simp;try with_reducible rfl)
      simp only[Act.put,zpa,zpb,zpc]
      refine par3_read (v:= ?_) 3 (by simp only[zga,zgb,zgc];rfl) (by kernel_rfl) (by rfl) HS0.out ?_ (fun _ _ _ h=>h) ?_
      rotate_left
      ·(intro w9 hSw;(try dsimp only at hSw);go_simp;try with_reducible rfl)
      simp only[Act.put,zpa,zpb,zpc]
      clear c0 c1 c2 c3
      refine par3_one 4 (by simp only[zga,zgb,zgc];rfl) (by kernel_rfl) (by rfl) ?_
      refine owp_call (by go_simp;constructor<;>rfl) ?_
      refine HWR.out.mono ?_
      rintro e W13 ⟨rfl,hp,hs⟩
      have HI13:=Lib.hid ((HI5.out.below ((Touch.refl [] wc).drew.below (Nat.le_refl _) (by simp))).go hp hs)
      have HRP:=Lib.hid (HI13.out.sx.row HROP.out (by simp))
      refine⟨_,rfl,fun s _=>⟨(hs.cell (by simp)).trans s.1,(hs.cell (by simp)).trans s.2.1,(hs.cell (by simp)).trans s.2.2.1,(hs.cell (by simp)).trans s.2.2.2⟩, ?_⟩
      clear hp hs
      simp only[Act.put,zpa,zpb,zpc]
      refine par3_tail _ (by simp only[List.drop_succ_cons,List.drop_zero];rfl) (by kernel_rfl) ?_
      skip
      go_wp2_with (refine wpList_store_node rfl (.tmp 8) (.tmp 102) rfl w.heap.size false (.slice ak 0 akc) (.slice av n'.vals.length avc) (.slice ac n'.kids.length acc) n' (by first|rfl|exact hl2) rfl rfl HRP.out (by simp[Value.oneCell']) ?_;intro w9 hr9 t9;have HR9:=Lib.hid hr9;have HT9:=Lib.hid t9;clear hr9 t9)
      refine NoPanic.normal ?_
      go_wp2_with fail
      refine bodyPost_ret_by (res_node2 Tryz.results57 rfl HR9.out) rfl ?_
      have HE:=pt_end HI13.out.pgX HI13.out.sx HT9.out HX.out hw (K:=K+120*(f+1)) (by omega)
      have hni:=(HI13.out.nodeI n'.leaf).touch HT9.out (fun q hq hm=>by simp at hm;subst hm;exact(HI13.out.xx w.heap.size (by simp)).1 hq)
      skip
      exact⟨_,_,_,rfl,hni,HE.1,HE.2⟩
     ·have hq:R=(n',0,M'):=by rw[HQE.out];unfold endD;rw[if_pos ⟨HZ0.out,hl2⟩]
      subst hq
      rw[hl2] at c0
      go_wp2_with (refine wpList_store_node rfl (.tmp 8) (.tmp 101) rfl w.heap.size true (.slice ak 0 akc) (.slice av n'.vals.length avc) (.slice ac n'.kids.length acc) n' (by first|rfl|exact hl2) rfl rfl HRP.out (by simp[Value.oneCell']) ?_;intro w9 hr9 t9;have HR9:=Lib.hid hr9;have HT9:=Lib.hid t9;clear hr9 t9)
      refine bodyPost_ret_by (res_node2 Tryz.results57 rfl HR9.out) rfl ?_
      have HE:=pt_end HI5.out.pgX HI5.out.sx HT9.out HX.out hw (K:=K+120*(f+1)) (by omega)
      have hni:=(HI5.out.nodeI n'.leaf).touch HT9.out (fun q hq hm=>by simp at hm;subst hm;exact(HI5.out.xx w.heap.size (by simp)).1 hq)
      exact⟨_,_,_,rfl,hni,HE.1,HE.2⟩
    ·have d8:((n'.keys.length:Int)==0)=false:=by simpa using hz
     cases hl2:n'.leaf
     ·have HWR:=Lib.hid (bwrite_any (no:=no) (HI5.out.pg.moveX ((Touch.refl [] wc).drew.below (Nat.le_refl _) (by simp))) (by omega) ((HI5.out.nodeI n'.leaf).below ((Touch.refl [] wc).drew.below (Nat.le_refl _) (by simp))) HSN.out (by omega))
      have hq:R=(n',(writeB M' no n').1,(writeB M' no n').2):=by rw[HQE.out];unfold endD;rw[if_neg (by rw[hl2];simp)]
      generalize writeB M' no n'=F at HWR hq
      obtain⟨ew,M9⟩:=F
      try simp only at HWR hq
      unfold ndV at HWR
      rw[hl2] at HWR
      skip
      subst hq
      have hS:(fun w':World=>w'.cell? ⟨w2.heap.size,0,none⟩=some (.bool false)∧w'.cell? ⟨w2.heap.size,1,none⟩=some (.slice ak n'.keys.length akc)∧w'.cell? ⟨w2.heap.size,2,none⟩=some (.slice av n'.vals.length avc)∧w'.cell? ⟨w2.heap.size,3,none⟩=some (.slice ac n'.kids.length acc)) wc.drew:=⟨by rw[←hl2];exact c0,c1,c2,c3⟩
      have HS0:=Lib.hid hS
      clear hS
      rw[hl2] at c0
      go_wp2_with fail
      refine wp_region_noPanic ?_
      refine wp_region_par3 5 5 (by kernel_rfl) (by kernel_rfl) (by simp) (by omega) (by kernel_rfl) (by kernel_rfl) (fun w':World=>w'.cell? ⟨w2.heap.size,0,none⟩=some (.bool false)∧w'.cell? ⟨w2.heap.size,1,none⟩=some (.slice ak n'.keys.length akc)∧w'.cell? ⟨w2.heap.size,2,none⟩=some (.slice av n'.vals.length avc)∧w'.cell? ⟨w2.heap.size,3,none⟩=some (.slice ac n'.kids.length acc)) ?_
      refine par3_read (v:= ?_) 0 (by simp only[zga,zgb,zgc];rfl) (by kernel_rfl) (by rfl) HS0.out ?_ (fun _ _ _ h=>h) ?_
      rotate_left
      ·(intro w9 hSw;(try dsimp only at hSw);go_simp;try with_reducible rfl)
      simp only[Act.put,zpa,zpb,zpc]
      refine par3_move (v:= ?_) 1 (by simp only[zga,zgb,zgc];rfl) (by kernel_rfl) (by rfl) ?_ (fun _ _ _ h=>h) ?_
      rotate_left
      ·(intro w9;go_simp;try with_reducible rfl)
      simp only[Act.put,zpa,zpb,zpc]
      refine par3_move (v:= ?_) 2 (by simp only[zga,zgb,zgc];rfl) (by kernel_rfl) (by rfl) ?_ (fun _ _ _ h=>h) ?_
      rotate_left
      ·(intro w9;go_simp;try with_reducible rfl)
      simp only[Act.put,zpa,zpb,zpc]
      refine par3_read (v:= ?_) 3 (by simp only[zga,zgb,zgc];rfl) (by kernel_rfl) (by rfl) HS0.out ?_ (fun _ _ _ h=>h) ?_
      rotate_left
      ·(intro w9 hSw;(try dsimp only at hSw);go_simp;try with_reducible rfl)
      simp only[Act.put,zpa,zpb,zpc]
      clear c0 c1 c2 c3
      refine par3_one 4 (by simp only[zga,zgb,zgc];rfl) (by kernel_rfl) (by rfl) ?_
      refine owp_call (by go_simp;constructor<;>rfl) ?_
      refine HWR.out.mono ?_
      rintro e W13 ⟨rfl,hp,hs⟩
      have HI13:=Lib.hid ((HI5.out.below ((Touch.refl [] wc).drew.below (Nat.le_refl _) (by simp))).go hp hs)
      have HRP:=Lib.hid (HI13.out.sx.row HROP.out (by simp))
      refine⟨_,rfl,fun s _=>⟨(hs.cell (by simp)).trans s.1,(hs.cell (by simp)).trans s.2.1,(hs.cell (by simp)).trans s.2.2.1,(hs.cell (by simp)).trans s.2.2.2⟩, ?_⟩
      clear hp hs
      simp only[Act.put,zpa,zpb,zpc]
      refine par3_tail _ (by simp only[List.drop_succ_cons,List.drop_zero];rfl) (by kernel_rfl) ?_
      skip
      go_wp2_with (refine wpList_store_node rfl (.tmp 8) (.tmp 102) rfl w.heap.size false (.slice ak n'.keys.length akc) (.slice av n'.vals.length avc) (.slice ac n'.kids.length acc) n' (by first|rfl|exact hl2) rfl rfl HRP.out (by simp[Value.oneCell']) ?_;intro w9 hr9 t9;have HR9:=Lib.hid hr9;have HT9:=Lib.hid t9;clear hr9 t9)
      refine NoPanic.normal ?_
      go_wp2_with fail
      refine bodyPost_ret_by (res_node2 Tryz.results57 rfl HR9.out) rfl ?_
      have HE:=pt_end HI13.out.pgX HI13.out.sx HT9.out HX.out hw (K:=K+120*(f+1)) (by omega)
      have hni:=(HI13.out.nodeI n'.leaf).touch HT9.out (fun q hq hm=>by simp at hm;subst hm;exact(HI13.out.xx w.heap.size (by simp)).1 hq)
      skip
      exact⟨_,_,_,rfl,hni,HE.1,HE.2⟩
     ·have HWR:=Lib.hid (bwrite_any (no:=no) (HI5.out.pg.moveX ((Touch.refl [] wc).drew.below (Nat.le_refl _) (by simp))) (by omega) ((HI5.out.nodeI n'.leaf).below ((Touch.refl [] wc).drew.below (Nat.le_refl _) (by simp))) HSN.out (by omega))
      have hq:R=(n',(writeB M' no n').1,(writeB M' no n').2):=by rw[HQE.out];unfold endD;rw[if_neg (fun hh=>hz hh.1)]
      generalize writeB M' no n'=F at HWR hq
      obtain⟨ew,M9⟩:=F
      try simp only at HWR hq
      unfold ndV at HWR
      rw[hl2] at HWR
      skip
      subst hq
      have hS:(fun w':World=>w'.cell? ⟨w2.heap.size,0,none⟩=some (.bool true)∧w'.cell? ⟨w2.heap.size,1,none⟩=some (.slice ak n'.keys.length akc)∧w'.cell? ⟨w2.heap.size,2,none⟩=some (.slice av n'.vals.length avc)∧w'.cell? ⟨w2.heap.size,3,none⟩=some (.slice ac n'.kids.length acc)) wc.drew:=⟨by rw[←hl2];exact c0,c1,c2,c3⟩
      have HS0:=Lib.hid hS
      clear hS
      rw[hl2] at c0
      go_wp2_with fail
      refine wp_region_noPanic ?_
      refine wp_region_par3 5 5 (by kernel_rfl) (by kernel_rfl) (by simp) (by omega) (by kernel_rfl) (by kernel_rfl) (fun w':World=>w'.cell? ⟨w2.heap.size,0,none⟩=some (.bool true)∧w'.cell? ⟨w2.heap.size,1,none⟩=some (.slice ak n'.keys.length akc)∧w'.cell? ⟨w2.heap.size,2,none⟩=some (.slice av n'.vals.length avc)∧w'.cell? ⟨w2.heap.size,3,none⟩=some (.slice ac n'.kids.length acc)) ?_
      refine par3_read (v:= ?_) 0 (by simp only[zga,zgb,zgc];rfl) (by kernel_rfl) (by rfl) HS0.out ?_ (fun _ _ _ h=>h) ?_
      rotate_left
      ·(intro w9 hSw;(try dsimp only at hSw);go_simp;try with_reducible rfl)
      simp only[Act.put,zpa,zpb,zpc]
      refine par3_move (v:= ?_) 1 (by simp only[zga,zgb,zgc];rfl) (by kernel_rfl) (by rfl) ?_ (fun _ _ _ h=>h) ?_
      rotate_left
      ·(intro w9;go_simp;try with_reducible rfl)
      simp only[Act.put,zpa,zpb,zpc]
      refine par3_move (v:= ?_) 2 (by simp only[zga,zgb,zgc];rfl) (by kernel_rfl) (by rfl) ?_ (fun _ _ _ h=>h) ?_
      rotate_left
      ·(intro w9;go_simp;try with_reducible rfl)
      simp only[Act.put,zpa,zpb,zpc]
      refine par3_read (v:= ?_) 3 (by simp only[zga,zgb,zgc];rfl) (by kernel_rfl) (by rfl) HS0.out ?_ (fun _ _ _ h=>h) ?_
      rotate_left
      ·(intro w9 hSw;(try dsimp only at hSw);go_simp;try with_reducible rfl)
      simp only[Act.put,zpa,zpb,zpc]
      clear c0 c1 c2 c3
      refine par3_one 4 (by simp only[zga,zgb,zgc];rfl) (by kernel_rfl) (by rfl) ?_
      refine owp_call (by go_simp;constructor<;>rfl) ?_
      refine HWR.out.mono ?_
      rintro e W13 ⟨rfl,hp,hs⟩
      have HI13:=Lib.hid ((HI5.out.below ((Touch.refl [] wc).drew.below (Nat.le_refl _) (by simp))).go hp hs)
      have HRP:=Lib.hid (HI13.out.sx.row HROP.out (by simp))
      refine⟨_,rfl,fun s _=>⟨(hs.cell (by simp)).trans s.1,(hs.cell (by simp)).trans s.2.1,(hs.cell (by simp)).trans s.2.2.1,(hs.cell (by simp)).trans s.2.2.2⟩, ?_⟩
      clear hp hs
      simp only[Act.put,zpa,zpb,zpc]
      refine par3_tail _ (by simp only[List.drop_succ_cons,List.drop_zero];rfl) (by kernel_rfl) ?_
      skip
      go_wp2_with (refine wpList_store_node rfl (.tmp 8) (.tmp 102) rfl w.heap.size true (.slice ak n'.keys.length akc) (.slice av n'.vals.length avc) (.slice ac n'.kids.length acc) n' (by first|rfl|exact hl2) rfl rfl HRP.out (by simp[Value.oneCell']) ?_;intro w9 hr9 t9;have HR9:=Lib.hid hr9;have HT9:=Lib.hid t9;clear hr9 t9)
      refine NoPanic.normal ?_
      go_wp2_with fail
      refine bodyPost_ret_by (res_node2 Tryz.results57 rfl HR9.out) rfl ?_
      have HE:=pt_end HI13.out.pgX HI13.out.sx HT9.out HX.out hw (K:=K+120*(f+1)) (by omega)
      have hni:=(HI13.out.nodeI n'.leaf).touch HT9.out (fun q hq hm=>by simp at hm;subst hm;exact(HI13.out.xx w.heap.size (by simp)).1 hq)
      skip
      exact⟨_,_,_,rfl,hni,HE.1,HE.2⟩
   have hq:=HQ00.out
   obtain⟨k1,k2,k3,k4⟩:=hok.leafs hl
   rw[if_pos hl] at hq
   have HBS:=fun(w':World) (h:NdI w' (.slice ka n.keys.length kc) (.slice va n.vals.length vc) (.slice ca n.kids.length cc) n)=>Lib.hid (bsearch_any key h.ks hok.pw (by omega))
   have HPOS:=Lib.hid (fun h=>posL_lt (n:=n) (key:=key) hok.pw h)
   have HSO:=Lib.hid (hok.sh.out (key:=key) hl)
   have hno:ndOut n key= { n with keys:=n.keys.eraseIdx (posL n.keys key),vals:=n.vals.eraseIdx (posL n.keys key) }:=rfl
   rw[hno] at HSO hq
   obtain⟨P,hP⟩: ∃P,P=posL n.keys key:=⟨_,rfl⟩
   obtain⟨H,hH⟩: ∃H,H=hasL n.keys key:=⟨_,rfl⟩
   rw[←hP, ←hH] at HBS HPOS hq
   rw[←hP] at HSO
   have HQ:=Lib.hid hq
   have HK2:=Lib.hid k2
   have HK3:=Lib.hid k3
   clear hq hok k1 k2 k3 k4 hP hH hno HR HDN HIH
   go_wp2_with fail
   refine(HBS _ (HIN.out.nodeI n.leaf)).out.mono ?_
   rintro e w4 ⟨rfl,hd⟩
   have HI4:=Lib.hid (HIN.out.below hd.below)
   have HRP:=Lib.hid (HI4.out.sx.row HROP.out (by simp))
   clear hd c0 c1 c2 c3 HBS
   obtain⟨c0,c1,c2,c3⟩:=ndF_cells HI4.out.box
   cases H
   ·have hq:R=(nd0,19,M):=by rw[HQ.out,if_pos rfl]
    subst hq
    go_wp2_with (refine wpList_store_node rfl (.tmp 8) (.tmp 41) rfl w.heap.size false (.slice none 0 0) (.slice none 0 0) (.slice none 0 0) nd0 rfl rfl rfl HRP.out (by simp[Value.oneCell']) ?_;intro w9 hr9 t9;have HR9:=Lib.hid hr9;have HT9:=Lib.hid t9;clear hr9 t9)
    refine bodyPost_ret_by (res_node2 Tryz.results57 rfl HR9.out) rfl ?_
    have HE:=pt_end HI4.out.pgX HI4.out.sx HT9.out HX.out hw (K:=K+120*(f+1)) (by omega)
    exact⟨_,_,_,rfl,⟨IsI.nil _ _,IsI.nil _ _,IsI.nil _ _⟩,HE.1,HE.2⟩
   ·have hlt:=HPOS.out rfl
    have hplt:P≤1000:=by have:=HK3.out;omega
    have hS:(fun w':World=>w'.cell? ⟨w2.heap.size,1,none⟩=some (.slice ka n.keys.length kc)∧w'.cell? ⟨w2.heap.size,2,none⟩=some (.slice va n.vals.length vc)) w4.drew:=⟨c1,c2⟩
    have HS0:=Lib.hid hS
    have HLT:=Lib.hid hlt
    clear hS hlt
    go_wp2_with fail
    refine wp_region_noPanic ?_
    refine wp_region_par3 14 13 (by kernel_rfl) (by kernel_rfl) (by simp) (by omega) (by kernel_rfl) (by kernel_rfl) (fun w':World=>w'.cell? ⟨w2.heap.size,1,none⟩=some (.slice ka n.keys.length kc)∧w'.cell? ⟨w2.heap.size,2,none⟩=some (.slice va n.vals.length vc)) ?_
    refine par3_move (v:= ?_) 0 (by simp only[zga,zgb,zgc];rfl) (by kernel_rfl) (by rfl) ?_ (fun _ _ _ h=>h) ?_
    rotate_left
    ·(intro w9;go_simp;try with_reducible rfl)
    simp only[Act.put,zpa,zpb,zpc]
    refine par3_read (v:= ?_) 1 (by simp only[zga,zgb,zgc];rfl) (by kernel_rfl) (by rfl) HS0.out ?_ (fun _ _ _ h=>h) ?_
    rotate_left
    ·(intro w9 hSw;(try dsimp only at hSw);go_simp;try with_reducible rfl)
    simp only[Act.put,zpa,zpb,zpc]
    refine par3_move (v:= ?_) 2 (by simp only[zga,zgb,zgc];rfl) (by kernel_rfl) (by rfl) ?_ (fun _ _ _ h=>h) ?_
    rotate_left
    ·(intro w9;go_simp;try with_reducible rfl)
    simp only[Act.put,zpa,zpb,zpc]
    refine par3_move (v:= ?_) 3 (by simp only[zga,zgb,zgc];rfl) (by kernel_rfl) (by rfl) ?_ (fun _ _ _ h=>h) ?_
    rotate_left
    ·(intro w9;go_simp;try with_reducible rfl)
    simp only[Act.put,zpa,zpb,zpc]
    refine par3_move (v:= .int .i64 ((P+1:Nat):Int)) 4 (by simp only[zga,zgb,zgc];rfl) (by kernel_rfl) (by rfl) ?_ (fun _ _ _ h=>h) ?_
    ·intro w9
     have hw1:IntKind.i64.wrap ((P:Int)+1)=((P+1:Nat):Int):=by rw[IntWalk.i64_in _ (by omega)];omega
     go_simp
     first|done|(rw[hw1];done)|(simp[hw1];done)
    simp only[Act.put,zpa,zpb,zpc]
    refine par3_move (v:= ?_) 6 (by simp only[zga,zgb,zgc];rfl) (by kernel_rfl) (by rfl) ?_ (fun _ _ _ h=>h) ?_
    rotate_left
    ·(intro w9;go_simp;try with_reducible rfl)
    simp only[Act.put,zpa,zpb,zpc]
    refine par3_read (v:= ?_) 7 (by simp only[zga,zgb,zgc];rfl) (by kernel_rfl) (by rfl) HS0.out ?_ (fun _ _ _ h=>h) ?_
    rotate_left
    ·(intro w9 hSw;(try dsimp only at hSw);go_simp;try with_reducible rfl)
    simp only[Act.put,zpa,zpb,zpc]
    refine par3_move (v:= ?_) 8 (by simp only[zga,zgb,zgc];rfl) (by kernel_rfl) (by rfl) ?_ (fun _ _ _ h=>h) ?_
    rotate_left
    ·(intro w9;go_simp;try with_reducible rfl)
    simp only[Act.put,zpa,zpb,zpc]
    refine par3_move (v:= ?_) 9 (by simp only[zga,zgb,zgc];rfl) (by kernel_rfl) (by rfl) ?_ (fun _ _ _ h=>h) ?_
    rotate_left
    ·(intro w9;go_simp;try with_reducible rfl)
    simp only[Act.put,zpa,zpb,zpc]
    refine par3_move (v:= .int .i64 ((P+1:Nat):Int)) 10 (by simp only[zga,zgb,zgc];rfl) (by kernel_rfl) (by rfl) ?_ (fun _ _ _ h=>h) ?_
    ·intro w9
     have hw1:IntKind.i64.wrap ((P:Int)+1)=((P+1:Nat):Int):=by rw[IntWalk.i64_in _ (by omega)];omega
     go_simp
     first|done|(rw[hw1];done)|(simp[hw1];done)
    simp only[Act.put,zpa,zpb,zpc]
    refine par3_name (fun W6 hW6=> ?_)
    have HI6:=Lib.hid (show InSt w0 _ W6 p (K+4) M (w.heap.size::X) w2.heap.size (w.heap.size+1) _ _ _ _ _ _ _ by rw[hW6];exact HI4.out.below ((Touch.refl [] w4).drew.below (Nat.le_refl _) (by simp)))
    clear hW6 c0 c1 c2 c3 HI4
    refine par3_one 5 (by simp only[zga,zgb,zgc];rfl) (by kernel_rfl) (by rfl) ?_
    refine owp_call (by go_simp;constructor<;>rfl) ?_
    refine(dltU_any HI6.out.ks HLT.out).mono ?_
    rintro e W10 ⟨vK,rfl,ho,t,hbk⟩
    have HIn:=Lib.hid (HI6.out.newK (l':=n.keys.eraseIdx P) (by rw[List.length_eraseIdx,if_pos HLT.out];exact ho) t (fun q hq=> .inl (hbk▸hq)))
    obtain⟨aK,cK,hfK⟩:=((HIn.out.nodeI true).ks).form
    try simp only at hfK
    subst hfK
    refine⟨_,rfl,fun s _=>⟨(World.rowIs.cell HIn.out.box (i:=1) (by decide)).trans ((World.rowIs.cell HI6.out.box (i:=1) (by decide)).symm.trans s.1),(World.rowIs.cell HIn.out.box (i:=2) (by decide)).trans ((World.rowIs.cell HI6.out.box (i:=2) (by decide)).symm.trans s.2)⟩, ?_⟩
    have HI10:=HIn
    clear ho t hbk HI6
    simp only[Act.put,zpa,zpb,zpc]
    refine par3_one 11 (by simp only[zga,zgb,zgc];rfl) (by kernel_rfl) (by rfl) ?_
    refine owp_call (by go_simp;constructor<;>rfl) ?_
    refine(dltU_any HI10.out.vs (by have:=HK2.out;have:=HLT.out;omega)).mono ?_
    rintro e W11 ⟨vV,rfl,ho,t,hbk⟩
    have HIn:=Lib.hid (HI10.out.newV (l':=n.vals.eraseIdx P) (by rw[List.length_eraseIdx,if_pos (by have:=HK2.out;have:=HLT.out;omega)];exact ho) t (fun q hq=> .inl (hbk▸hq)))
    obtain⟨aV,cV,hfV⟩:=((HIn.out.nodeI true).vs).form
    try simp only at hfV
    subst hfV
    refine⟨_,rfl,fun s _=>⟨(World.rowIs.cell HIn.out.box (i:=1) (by decide)).trans ((World.rowIs.cell HI10.out.box (i:=1) (by decide)).symm.trans s.1),(World.rowIs.cell HIn.out.box (i:=2) (by decide)).trans ((World.rowIs.cell HI10.out.box (i:=2) (by decide)).symm.trans s.2)⟩, ?_⟩
    have HI11:=HIn
    clear ho t hbk HI10
    simp only[Act.put,zpa,zpb,zpc]
    refine par3_move (v:= ?_) 12 (by simp only[zga,zgb,zgc];rfl) (by kernel_rfl) (by rfl) ?_ (fun _ _ _ h=>h) ?_
    rotate_left
    ·(intro w9;go_simp;try with_reducible rfl)
    simp only[Act.put,zpa,zpb,zpc]
    refine par3_one 13 (by simp only[zga,zgb,zgc];rfl) (by kernel_rfl) (by rfl) ?_
    have hc:=World.rowIs.cell HI11.out.box (i:=1) (by decide)
    have hz:=World.rowIs.frozen HI11.out.box 1
    have HI12:=Lib.hid (HI11.out.set ((Touch.refl [w2.heap.size] W11).setCell (p:=⟨w2.heap.size,1,none⟩) (.inl (by simp)) (.slice aK (n.keys.eraseIdx P).length cK)) (HI11.out.box.set 1 (.slice aK (n.keys.eraseIdx P).length cK)))
    refine owp_skip (w1:= ?_) ?_ ?_
    rotate_left
    ·(go_simp;first|rfl|(constructor<;>rfl))
    refine⟨fun _ h=>absurd h (by decide), ?_⟩
    clear hc hz
    simp only[Act.put,zpa,zpb,zpc]
    refine par3_name (fun W12 hW=> ?_)
    rw[←hW] at HI12
    clear hW HI11
    refine par3_tail _ (by simp only[List.drop_succ_cons,List.drop_zero];rfl) (by kernel_rfl) ?_
    skip
    have c2:=World.rowIs.cell HI12.out.box (i:=2) (by decide)
    have fz:=World.rowIs.frozen HI12.out.box
    go_wp2_with fail
    refine NoPanic.normal ?_
    go_step
    go_step
    go_meet
    have HIF:=HI12.out.set ((Touch.refl [w2.heap.size] W12).setCell (p:=⟨w2.heap.size,2,none⟩) (.inl (by simp)) (.slice aV (n.vals.eraseIdx P).length cV)) (HI12.out.box.set 2 (.slice aV (n.vals.eraseIdx P).length cV))
    exact⟨⟨n.leaf,n.keys.eraseIdx P,n.vals.eraseIdx P,n.kids⟩,M,by rw[HQ.out,if_neg (by decide)],InsSt.of (n:=⟨n.leaf,n.keys.eraseIdx P,n.vals.eraseIdx P,n.kids⟩) (ndSt_congr HIF (fun q hq=>by rcases q with _|_|_|_|q<;>first|rfl|(exfalso;omega))) (by omega),HSO.out.mono (by omega)⟩
end Go.Proofs.YtjgkegkinnlcoaaGreatDoor
namespace Go.Proofs.YtjgkegkinnlcoaaGreatDoor
open Go.RowKit Go.Maps Go.Joins
theorem NdSh.kidsB {n:ND} {J:Nat} (h:NdSh n J): ∀v∈n.kids,0≤v∧v≤4294967295:=fun v hv=>by
 cases hl:n.leaf
 ·exact(h.fk hl).2.2 v hv
 ·rw[(h.lf hl).1] at hv;cases hv
theorem endD_fst (M:PM) (no:Int) (n:ND):(endD M no n).1=n:=by unfold endD;split<;>rfl
theorem del_kids (key:Int): ∀(f:Nat) (M:PM) (no:Int), ∀v∈(delL key f M no).1.kids,0≤v∧v≤4294967295
 |0,M,no=>fun v hv=>by cases hv
 |f+1,M,no=>by
  have f0:(ndRead M no).1=0→NdOk (ndRead M no).2:=fun hok=>ndRead_ok (M:=M) (no:=no) (by rw[←hok])
  rw[delL_succ]
  split
  ·intro v hv;cases hv
  ·rename_i h1
   have ok:=f0 (by simpa using h1)
   split
   ·rename_i hl
    split
    ·intro v hv;cases hv
    ·rw[endD_fst];exact(ok.sh.out (key:=key) hl).kidsB
   ·rename_i hl
    split
    ·intro v hv;cases hv
    ·split
     ·split
      ·intro v hv;cases hv
      ·rw[endD_fst]
       exact(feed_sh ok.sh (by simpa using hl) (by have:=placeN_le ok.pw key;have:=ok.k1;omega)).kidsB
     ·rw[endD_fst];exact ok.sh.kidsB
set_option maxRecDepth 100000 in
set_option maxHeartbeats 4000000 in
theorem Del_any {w0 w:World} {p K:Nat} {M:PM} {X:List Nat} (h:PgX w0 w p K M X) (hK:K≤600000000000) (root key:Int) (hk:0≤key∧key≤18446744073709551615):
  Calls Tryz.prog 16 #[.pointer (some ⟨p,0,none⟩), .int .i64 root, .int .u64 key] w fun e w'=>e= .returned (.int .i64 (delB M root key).1)∧PgX w0 w' p (K+2100) (delB M root key).2 X∧SameX X w w':=by
 have HGT:=Lib.hid (Get_any h (by omega) root key)
 have HTP:=fun(W:World) (J:Nat) (h:PgX w0 W p J M X) (hJ:J≤900000000000)=>Lib.hid (top_any h (by omega) root)
 have HX:=Lib.hid h.lt
 have hbd:0≤(topB M root).1∧(topB M root).1≤2147483647:=by
  obtain⟨b1,b2,b3⟩:=rootP_bd M root
  unfold topB
  simp only
  split
  ·simp
  ·rename_i hn
   by_cases e:(rootP M root).2=0
   ·simp only[e,true_and] at hn;omega
   ·have:=b3 e;omega
 obtain⟨R,hR⟩: ∃R,R=delB M root key:=⟨_,rfl⟩
 rw[←hR]
 unfold delB at hR
 generalize getB M root key=GB at HGT hR
 generalize topB M root=T at HTP hbd hR
 obtain⟨gv,ge⟩:=GB
 obtain⟨no,er⟩:=T
 simp only at HGT HTP hbd hR
 obtain⟨n0,n1⟩:=hbd
 have HDL:=fun(W:World) (J:Nat) (h:PgX w0 W p J M X) (hJ:J≤650000000000)=>Lib.hid (bdel_any key hk 16 h (by omega) no 1 (by decide))
 have hkb:=del_kids key 16 M no
 generalize delL key 16 M no=G at HDL hkb hR
 obtain⟨kn,ke,M6⟩:=G
 simp only at hkb hR
 have HR:=Lib.hid hR
 have HKB:=Lib.hid hkb
 clear h hR hk hkb
 go_enter Tryz.func16,Tryz.ntmps16
 go_wp2_with fail
 refine HGT.out.mono ?_
 rintro e w1 ⟨rfl,hp1,hs1⟩
 have HP1:=Lib.hid hp1
 have HS1:=Lib.hid hs1
 clear hp1 hs1 HGT
 by_cases hge:ge=0
 rotate_left
 ·have d1:(ge != 0)=true:=by simpa using hge
  have hq:R=(ge,M):=by rw[HR.out,if_pos hge]
  subst hq
  go_wp2_with fail
  go_ret
  exact⟨rfl,HP1.out.mono (by omega),HS1.out⟩
 subst hge
 go_wp2_with fail
 refine(HTP _ _ HP1.out (by omega)).out.mono ?_
 rintro e w2 ⟨rfl,hp2,hs2⟩
 have HP2:=Lib.hid hp2
 have HS2:=Lib.hid (HS1.out.trans hs2)
 clear hp2 hs2 HTP
 go_wp2_with fail
 refine(HDL _ _ HP2.out (by omega)).out.mono ?_
 rintro e w6 ⟨xk,xv,xc,rfl,hxn,hp6,hs6⟩
 obtain⟨xk,xkc,rfl⟩:=hxn.ks.form
 obtain⟨xv,xvc,rfl⟩:=hxn.vs.form
 obtain⟨xc,xcc,rfl⟩:=hxn.cs.form
 have HXN:=Lib.hid hxn
 have HP6:=Lib.hid hp6
 have HS6:=Lib.hid (HS2.out.trans hs6)
 clear hxn hp6 hs6 HDL
 unfold ndV
 have hq:=HR.out
 rw[if_neg (by simp)] at hq
 by_cases hke:ke=0
 rotate_left
 ·have d1:(ke != 0)=true:=by simpa using hke
  have hq:R=(ke,M6):=by rw[hq,if_pos hke]
  subst hq
  have HC7: ∀W:World,Below w6.heap.size w6 W→True:=fun _ _=>trivial
  go_wp2_with (refine wpList_store_node rfl (.tmp 11) (.tmp 36) rfl w6.heap.size kn.leaf (.slice xk kn.keys.length xkc) (.slice xv kn.vals.length xvc) (.slice xc kn.kids.length xcc) kn (by first|rfl|exact hl) rfl rfl (node0_new w6) (by simp[Value.oneCell']) ?_;intro w7 hr7 t7;have HB7:=Lib.hid ((((Touch.refl [w6.heap.size] w6).alloc _).trans t7 (fun b hb=> .inl hb)).below (Nat.le_refl _) (fun x hx=>by simp at hx;omega));have HP7:=Lib.hid (HP6.out.moveX HB7.out);have HS7:=Lib.hid (HS6.out.trans (SameX.of_below HB7.out HP6.out.lt));obtain⟨r0,r1,r2,r3⟩:=ndF_cells hr7;have hc7:=HC7 w7 HB7.out;clear hr7 t7)
  go_ret
  exact⟨rfl,HP7.out.mono (by omega),HS7.out⟩
 subst hke
 rw[if_neg (by simp)] at hq
 have HQ:=Lib.hid hq
 clear hq HR
 cases hl:kn.leaf
 ·by_cases hz:kn.kids.length=1
  ·have hnx:nextD kn no=kn.kids.getD 0 0:=by unfold nextD;rw[if_neg (by rw[hl];simp),if_pos ⟨hl,hz⟩]
   obtain⟨nx,hnxe⟩: ∃q,q=kn.kids.getD 0 0:=⟨_,rfl⟩
   have hb:0≤nx∧nx≤4294967295:=by rw[hnxe,List.getD_eq_getElem?_getD,List.getElem?_eq_getElem (by omega)];exact HKB.out _ (List.getElem_mem _)
   obtain⟨b0,b1⟩:=hb
   have zz:0<kn.kids.length:=by omega
   obtain⟨g,o,c,hv,hc1,hc2,hg,hcs⟩:=HXN.out.cs.at_ zz
   injection hv with hva hvn hvc
   subst hva
   subst hvc
   have hc0:=hcs 0 zz
   rw[←hnxe,Nat.add_zero] at hc0
   rw[←hnxe] at hnx
   have HC7:=fun(W:World) (hb:Below w6.heap.size w6 W)=>(hb.cell (p:=⟨g,o,none⟩) hg).trans hc0
   have z0:(0:Int)<(kn.kids.length:Int):=by omega
   clear hcs hc0 hvn hg hc1 hc2 hnxe
   by_cases hne:nx=no
   ·have hq:R=(0,M6):=by rw[HQ.out,hnx,if_pos hne]
    subst hq
    subst hne
    go_wp2_with (refine wpList_store_node rfl (.tmp 11) (.tmp 36) rfl w6.heap.size false (.slice xk kn.keys.length xkc) (.slice xv kn.vals.length xvc) (.slice (some ⟨g,o,none⟩) 1 xcc) kn (by first|rfl|exact hl) rfl rfl (node0_new w6) (by simp[Value.oneCell']) ?_;intro w7 hr7 t7;have HB7:=Lib.hid ((((Touch.refl [w6.heap.size] w6).alloc _).trans t7 (fun b hb=> .inl hb)).below (Nat.le_refl _) (fun x hx=>by simp at hx;omega));have HP7:=Lib.hid (HP6.out.moveX HB7.out);have HS7:=Lib.hid (HS6.out.trans (SameX.of_below HB7.out HP6.out.lt));obtain⟨r0,r1,r2,r3⟩:=ndF_cells hr7;have hc7:=HC7 w7 HB7.out;clear hr7 t7)
    go_ret
    exact⟨rfl,HP7.out.mono (by omega),HS7.out⟩
   ·have d9:(nx==no)=false:=by simpa using hne
    have hq:=HQ.out
    rw[hnx,if_neg hne] at hq
    have HSR:=fun(W:World) (J:Nat) (h:PgX w0 W p J M6 X) (hJ:J≤900000000000)=>Lib.hid (px_setRoot h (by omega) root nx (by omega))
    generalize setRootP M6 root nx=S at hq HSR
    obtain⟨se,M8⟩:=S
    try simp only at hq HSR
    have HFR:=fun(W:World) (J:Nat) (h:PgX w0 W p J M8 X) (hJ:J≤900000000000)=>Lib.hid (px_free h (by omega) no)
    have HQ2:=Lib.hid hq
    have hw:IntKind.u64.wrap nx=nx:=IntWalk.u64_in _ (by omega)
    clear hq hne
    go_wp2_with (refine wpList_store_node rfl (.tmp 11) (.tmp 36) rfl w6.heap.size false (.slice xk kn.keys.length xkc) (.slice xv kn.vals.length xvc) (.slice (some ⟨g,o,none⟩) 1 xcc) kn (by first|rfl|exact hl) rfl rfl (node0_new w6) (by simp[Value.oneCell']) ?_;intro w7 hr7 t7;have HB7:=Lib.hid ((((Touch.refl [w6.heap.size] w6).alloc _).trans t7 (fun b hb=> .inl hb)).below (Nat.le_refl _) (fun x hx=>by simp at hx;omega));have HP7:=Lib.hid (HP6.out.moveX HB7.out);have HS7:=Lib.hid (HS6.out.trans (SameX.of_below HB7.out HP6.out.lt));obtain⟨r0,r1,r2,r3⟩:=ndF_cells hr7;have hc7:=HC7 w7 HB7.out;clear hr7 t7)
    refine(HSR _ _ HP7.out (by omega)).out.mono ?_
    rintro e w8 ⟨rfl,hp8,hs8⟩
    have HP8:=Lib.hid hp8
    have HS8:=Lib.hid (HS7.out.trans hs8)
    clear hp8 hs8 HSR
    by_cases hse:se=0
    ·subst hse
     have hq:R=freeP M8 no:=by rw[HQ2.out,if_neg (by simp)]
     subst hq
     go_wp2_with fail
     refine(HFR _ _ HP8.out (by omega)).out.mono ?_
     rintro e w9 ⟨rfl,hp9,hs9⟩
     have HP9:=Lib.hid hp9
     have HS9:=Lib.hid (HS8.out.trans hs9)
     clear hp9 hs9
     go_wp2_with fail
     go_ret
     exact⟨rfl,HP9.out.mono (by omega),HS9.out⟩
    ·have d10:(se != 0)=true:=by simpa using hse
     have hq:R=(se,M8):=by rw[HQ2.out,if_pos hse]
     subst hq
     go_wp2_with fail
     go_ret
     exact⟨rfl,HP8.out.mono (by omega),HS8.out⟩
  ·have hnx:nextD kn no=no:=by unfold nextD;rw[if_neg (by rw[hl];simp),if_neg (fun h=>hz h.2)]
   have hq:R=(0,M6):=by rw[HQ.out,hnx,if_pos rfl]
   have HC7: ∀W:World,Below w6.heap.size w6 W→True:=fun _ _=>trivial
   have dz:((kn.kids.length:Int)==1)=false:=by simpa using (show¬((kn.kids.length:Int)=1) by omega)
   subst hq
   go_wp2_with (refine wpList_store_node rfl (.tmp 11) (.tmp 36) rfl w6.heap.size false (.slice xk kn.keys.length xkc) (.slice xv kn.vals.length xvc) (.slice xc kn.kids.length xcc) kn (by first|rfl|exact hl) rfl rfl (node0_new w6) (by simp[Value.oneCell']) ?_;intro w7 hr7 t7;have HB7:=Lib.hid ((((Touch.refl [w6.heap.size] w6).alloc _).trans t7 (fun b hb=> .inl hb)).below (Nat.le_refl _) (fun x hx=>by simp at hx;omega));have HP7:=Lib.hid (HP6.out.moveX HB7.out);have HS7:=Lib.hid (HS6.out.trans (SameX.of_below HB7.out HP6.out.lt));obtain⟨r0,r1,r2,r3⟩:=ndF_cells hr7;have hc7:=HC7 w7 HB7.out;clear hr7 t7)
   go_ret
   exact⟨rfl,HP7.out.mono (by omega),HS7.out⟩
 ·by_cases hz:kn.keys.length=0
  ·have hnx:nextD kn no=0:=by unfold nextD;rw[if_pos ⟨hl,hz⟩]
   obtain⟨nx,hnxe⟩: ∃q,q=(0:Int):=⟨_,rfl⟩
   rw[←hnxe] at hnx
   have HC7: ∀W:World,Below w6.heap.size w6 W→True:=fun _ _=>trivial
   subst hnxe
   by_cases hne:(0)=no
   ·have hq:R=(0,M6):=by rw[HQ.out,hnx,if_pos hne]
    subst hq
    subst hne
    go_wp2_with (refine wpList_store_node rfl (.tmp 11) (.tmp 36) rfl w6.heap.size true (.slice xk 0 xkc) (.slice xv kn.vals.length xvc) (.slice xc kn.kids.length xcc) kn (by first|rfl|exact hl) rfl rfl (node0_new w6) (by simp[Value.oneCell']) ?_;intro w7 hr7 t7;have HB7:=Lib.hid ((((Touch.refl [w6.heap.size] w6).alloc _).trans t7 (fun b hb=> .inl hb)).below (Nat.le_refl _) (fun x hx=>by simp at hx;omega));have HP7:=Lib.hid (HP6.out.moveX HB7.out);have HS7:=Lib.hid (HS6.out.trans (SameX.of_below HB7.out HP6.out.lt));obtain⟨r0,r1,r2,r3⟩:=ndF_cells hr7;have hc7:=HC7 w7 HB7.out;clear hr7 t7)
    go_ret
    exact⟨rfl,HP7.out.mono (by omega),HS7.out⟩
   ·have d9:((0)==no)=false:=by simpa using hne
    have hq:=HQ.out
    rw[hnx,if_neg hne] at hq
    have HSR:=fun(W:World) (J:Nat) (h:PgX w0 W p J M6 X) (hJ:J≤900000000000)=>Lib.hid (px_setRoot h (by omega) root (0) (by omega))
    generalize setRootP M6 root (0)=S at hq HSR
    obtain⟨se,M8⟩:=S
    try simp only at hq HSR
    have HFR:=fun(W:World) (J:Nat) (h:PgX w0 W p J M8 X) (hJ:J≤900000000000)=>Lib.hid (px_free h (by omega) no)
    have HQ2:=Lib.hid hq
    have hw:IntKind.u64.wrap (0)=(0):=IntWalk.u64_in _ (by omega)
    clear hq hne
    go_wp2_with (refine wpList_store_node rfl (.tmp 11) (.tmp 36) rfl w6.heap.size true (.slice xk 0 xkc) (.slice xv kn.vals.length xvc) (.slice xc kn.kids.length xcc) kn (by first|rfl|exact hl) rfl rfl (node0_new w6) (by simp[Value.oneCell']) ?_;intro w7 hr7 t7;have HB7:=Lib.hid ((((Touch.refl [w6.heap.size] w6).alloc _).trans t7 (fun b hb=> .inl hb)).below (Nat.le_refl _) (fun x hx=>by simp at hx;omega));have HP7:=Lib.hid (HP6.out.moveX HB7.out);have HS7:=Lib.hid (HS6.out.trans (SameX.of_below HB7.out HP6.out.lt));obtain⟨r0,r1,r2,r3⟩:=ndF_cells hr7;have hc7:=HC7 w7 HB7.out;clear hr7 t7)
    refine(HSR _ _ HP7.out (by omega)).out.mono ?_
    rintro e w8 ⟨rfl,hp8,hs8⟩
    have HP8:=Lib.hid hp8
    have HS8:=Lib.hid (HS7.out.trans hs8)
    clear hp8 hs8 HSR
    by_cases hse:se=0
    ·subst hse
     have hq:R=freeP M8 no:=by rw[HQ2.out,if_neg (by simp)]
     subst hq
     go_wp2_with fail
     refine(HFR _ _ HP8.out (by omega)).out.mono ?_
     rintro e w9 ⟨rfl,hp9,hs9⟩
     have HP9:=Lib.hid hp9
     have HS9:=Lib.hid (HS8.out.trans hs9)
     clear hp9 hs9
     go_wp2_with fail
     go_ret
     exact⟨rfl,HP9.out.mono (by omega),HS9.out⟩
    ·have d10:(se != 0)=true:=by simpa using hse
     have hq:R=(se,M8):=by rw[HQ2.out,if_pos hse]
     subst hq
     go_wp2_with fail
     go_ret
     exact⟨rfl,HP8.out.mono (by omega),HS8.out⟩
  ·have hnx:nextD kn no=no:=by unfold nextD;rw[if_neg (fun h=>hz h.2),if_neg (by rw[hl];simp)]
   have hq:R=(0,M6):=by rw[HQ.out,hnx,if_pos rfl]
   have HC7: ∀W:World,Below w6.heap.size w6 W→True:=fun _ _=>trivial
   have dz:((kn.keys.length:Int)==0)=false:=by simpa using hz
   subst hq
   go_wp2_with (refine wpList_store_node rfl (.tmp 11) (.tmp 36) rfl w6.heap.size true (.slice xk kn.keys.length xkc) (.slice xv kn.vals.length xvc) (.slice xc kn.kids.length xcc) kn (by first|rfl|exact hl) rfl rfl (node0_new w6) (by simp[Value.oneCell']) ?_;intro w7 hr7 t7;have HB7:=Lib.hid ((((Touch.refl [w6.heap.size] w6).alloc _).trans t7 (fun b hb=> .inl hb)).below (Nat.le_refl _) (fun x hx=>by simp at hx;omega));have HP7:=Lib.hid (HP6.out.moveX HB7.out);have HS7:=Lib.hid (HS6.out.trans (SameX.of_below HB7.out HP6.out.lt));obtain⟨r0,r1,r2,r3⟩:=ndF_cells hr7;have hc7:=HC7 w7 HB7.out;clear hr7 t7)
   go_ret
   exact⟨rfl,HP7.out.mono (by omega),HS7.out⟩
end Go.Proofs.YtjgkegkinnlcoaaGreatDoor
