/- Lemmas on the way to the statement: BtAll2, BtOps4. -/
import Derived.Test.YtjgkegkinnlcoaaGreatDoorJ17
import Derived.Test.YtjgkegkinnlcoaaGreatDoorJ19
import Derived.Test.YtjgkegkinnlcoaaGreatDoorJ23
set_option linter.unusedSimpArgs false
set_option linter.unusedVariables false
namespace Go.Proofs.YtjgkegkinnlcoaaGreatDoor
open Go.RowKit Go.Maps Go.Joins
set_option maxRecDepth 100000 in
theorem Pages_any {w0 w:World} {p K:Nat} {M:PM} {X:List Nat} (h:PgX w0 w p K M X) (hK:K≤500000000000) (root:Int):
  Calls Tryz.prog 32 #[.pointer (some ⟨p,0,none⟩), .int .i64 root] w fun e w'=> ∃vp,e= .returned (.tuple #[vp, .int .i64 (wholeB M root).2.2])∧w'.ownsRow w.heap.size 3 1 vp (wholeB M root).2.1.length (((wholeB M root).2.1.mergeSort fun x y=>decide (x≤y)).map (Value.int .i64))∧PgX w0 w' p (K+300000) M (blkOf vp++X)∧SameX X w w'∧(wholeB M root).2.1.length≤65536:=by
 have HWH:=Lib.hid (whole_any h hK root)
 have h0:=h.below.size
 have HX:=Lib.hid h.lt
 clear h
 generalize wholeB M root=R at HWH
 go_enter Tryz.func32,Tryz.ntmps32
 go_wp2_with fail
 refine HWH.out.mono ?_
 rintro e w1 ⟨vo,vp,rfl,h1,h2,h3,h4,h5,h6,h7⟩
 have HSR:=Lib.hid (sort_row h2 (by omega))
 have H2:=Lib.hid h2
 have H3:=Lib.hid (h3.sub (Y:=blkOf vp++X) (fun y hy=>by simp only[List.mem_append] at hy ⊢;exact .inr hy))
 have H4:=Lib.hid h4
 clear h1 h2 h3 h4 h7 HWH
 go_wp2_with fail
 refine HSR.out.mono ?_
 rintro e w2 ⟨rfl,ho,hg⟩
 have hb:=blkOf_own H2.out
 have t:Touch (blkOf vp) w1 w2:=by rw[hb];exact Touch.of_grown hg
 have HO:=Lib.hid ho
 have HP:=Lib.hid (H3.out.touch t (fun x hx=>⟨by simp[hx],Nat.le_trans h0 (own_ge H2.out x hx).1⟩))
 have HS:=Lib.hid (H4.out.trans (SameX.of_touch t (fun x hx=>⟨H3.out.lt x (by simp[hx]),fun hm=>by have:=(own_ge H2.out x hm).1;have:=HX.out x hx;omega⟩)))
 clear ho hg hb t
 go_wp2_with fail
 go_ret2
 exact⟨_,rfl,HO.out,HP.out,HS.out,h6⟩
end Go.Proofs.YtjgkegkinnlcoaaGreatDoor
namespace Go.Proofs.YtjgkegkinnlcoaaGreatDoor
open Go.RowKit Go.Maps Go.Joins
theorem deepL_succ (M:PM) (f:Nat) (no:Int):deepL M (f+1) no=if no=0 then(0,0) else if (ndRead M no).1≠0 then(0,(ndRead M no).1) else
  if (ndRead M no).2.leaf=true then(((16 - f:Nat):Int),0) else deepL M f ((ndRead M no).2.kids.getD 0 0):=rfl
set_option maxRecDepth 100000 in
set_option maxHeartbeats 4000000 in
theorem Deep_any {w0 w:World} {p K:Nat} {M:PM} {X:List Nat} (h:PgX w0 w p K M X) (hK:K≤900000000000) (root:Int):
  Calls Tryz.prog 26 #[.pointer (some ⟨p,0,none⟩), .int .i64 root] w fun e w'=>e= .returned (.tuple #[.int .i64 (deepB M root).1, .int .i64 (deepB M root).2])∧PgX w0 w' p (K+100) M X∧SameX X w w':=by
 have HTP:=Lib.hid (top_any h (by omega) root)
 have HW0:=Lib.hid h.below.size
 have hG:deepB M root=if (topB M root).2≠0 then(0,(topB M root).2) else deepL M 16 (topB M root).1:=rfl
 rw[hG]
 clear hG h
 generalize topB M root=T at HTP
 obtain⟨no,er⟩:=T
 simp only at HTP ⊢
 obtain⟨R,hR⟩: ∃R:Int × Int,R=if er≠0 then(0,er) else deepL M 16 no:=⟨_,rfl⟩
 rw[←hR]
 have HR:=Lib.hid hR
 clear hR
 go_enter Tryz.func26,Tryz.ntmps26
 go_wp2_with fail
 refine HTP.out.mono ?_
 rintro e w1 ⟨rfl,hp,hs⟩
 have HP:=Lib.hid hp
 have HS:=Lib.hid hs
 clear hp hs
 go_wp2_with fail
 go_loopw [6,7,8,9,16] (fun v8 v9 _ _ v19 wr=>GtLoop w0 w wr p (K+2) M X R (deepL M) v8 v9 v19) (fun _ _ _ _ v _=>16 - (intOf v).toNat)
 case atStart=>exact⟨⟨0,no,er,rfl,rfl,rfl,by omega, .inr rfl,by rw[HR.out],HP.out.mono (by omega),HS.out⟩⟩
 case round=>
  obtain⟨⟨i,n1,e1,rfl,rfl,rfl,hi,hei,hRR,hpr,hsr⟩⟩:=hrel
  have HRR:=Lib.hid hRR
  have HPR:=Lib.hid hpr
  have HSR:=Lib.hid hsr
  clear hRR hpr hsr
  by_cases hlt:i<16
  rotate_left
  ·obtain rfl:i=16:=by omega
   obtain rfl:e1=0:=by omega
   go_wp2_with fail
   go_ret2
   have hq:R=(0,19):=by rw[HRR.out,if_neg (by simp)];rfl
   exact⟨by rw[hq];rfl,HPR.out.mono (by omega),HSR.out⟩
  by_cases he:e1=0
  rotate_left
  ·have d1:(e1 != 0)=true:=by simpa using he
   have d2:(e1==0)=false:=by simpa using he
   go_wp2_with fail
   go_ret2
   have hq:R=(0,e1):=by rw[HRR.out,if_pos he]
   exact⟨by rw[hq];rfl,HPR.out.mono (by omega),HSR.out⟩
  subst he
  have hq0:=HRR.out
  rw[if_neg (by simp),show 16 - i=(15 - i)+1 by omega,deepL_succ] at hq0
  by_cases hn:n1=0
  ·subst hn
   have hq:R=(0,0):=by rw[hq0];rfl
   have HQ:=Lib.hid hq
   clear hq hq0
   go_wp2_with fail
   go_ret2
   exact⟨by rw[HQ.out];rfl,HPR.out.mono (by omega),HSR.out⟩
  have d1:(n1==0)=false:=by simpa using hn
  rw[if_neg hn] at hq0
  have HRD:=Lib.hid (bread_any (HPR.out.more (w':=wr.alloc (.cells #[.bool false, .slice none 0 0, .slice none 0 0, .slice none 0 0] 109)) (below_alloc (Below.refl _ _)) (Nat.le_refl _) (by simp)) (by omega) n1)
  have hdn:=fun hok:(ndRead M n1).1=0=>ndRead_ok (M:=M) (no:=n1) (n:=(ndRead M n1).2) (by rw[←hok])
  generalize ndRead M n1=D at HRD hq0 hdn
  obtain⟨er,n⟩:=D
  simp only at HRD hq0 hdn
  have HQ0:=Lib.hid hq0
  have HDN:=Lib.hid hdn
  have hw:=HPR.out.below.size
  clear hq0 hdn
  go_wp2_with fail
  refine HRD.out.mono ?_
  rintro e w2 ⟨kv,vv,cv,rfl,ho,hp,hs⟩
  obtain⟨ka,kc,rfl⟩:=ho.i.ks.form
  obtain⟨va,vc,rfl⟩:=ho.i.vs.form
  obtain⟨ca,cc,rfl⟩:=ho.i.cs.form
  rw[show(wr.alloc (.cells #[.bool false, .slice none 0 0, .slice none 0 0, .slice none 0 0] 109)).heap.size=wr.heap.size+1 by simp] at ho
  have HO:=Lib.hid ho
  have HP2:=Lib.hid hp
  have HS2:=Lib.hid (SameX.trans (SameX.of_below (below_alloc (Below.refl _ _)) HPR.out.lt) hs.tail)
  have HR2:=Lib.hid (hs.row (node0_new wr) (by simp))
  have HLB:=Lib.hid (Nat.lt_of_lt_of_le (World.rowIs.lt (node0_new wr)) hs.size)
  clear ho hp hs HRD
  unfold ndV
  by_cases her:er=0
  rotate_left
  ·have d2:(er != 0)=true:=by simpa using her
   have hq:R=(0,er):=by rw[HQ0.out,if_pos her]
   have HQ:=Lib.hid hq
   clear hq
   go_wp2_with (refine wpList_store_node rfl (.tmp 9) (.tmp 28) rfl wr.heap.size n.leaf (.slice ka n.keys.length kc) (.slice va n.vals.length vc) (.slice ca n.kids.length cc) n (by first|rfl|exact hl) rfl rfl HR2.out (by simp[Value.oneCell']) ?_;intro w3 hr3 t3;have HNA:=Lib.hid (NodeAt.of_read (wa:=w2) HO.out HP2.out hw hr3 t3);have HS3:=Lib.hid ((HSR.out.trans HS2.out).trans (SameX.of_touch t3 (fun x hx=>⟨HP2.out.lt x (by simp[hx]),by have:=HPR.out.lt x hx;simp;omega⟩)));clear hr3 t3;obtain⟨c0,c1,c2,c3⟩:=HNA.out.cells)
   clear HO HP2 HS2 HR2 HLB
   go_ret2
   exact⟨by rw[HQ.out];rfl,HNA.out.pgX.mono (by omega),HS3.out⟩
  subst her
  have hok:=HDN.out rfl
  have hq1:=HQ0.out
  rw[if_neg (by simp)] at hq1
  cases hl:n.leaf
  ·obtain⟨k1,k2,k3,k4⟩:=hok.forks hl
   rw[hl,if_neg (by simp)] at hq1
   have HQ:=Lib.hid hq1
   have HK2:=Lib.hid k2
   clear hq1 hok k1 k2 k3 k4
   obtain⟨g,o,c',hv,hc1,hc2,hg,hcell⟩:=HO.out.i.cs.at_ (by have:=HK2.out;omega)
   cases hv
   have hcell0:=hcell 0 (by have:=HK2.out;omega)
   obtain⟨N2,hN2⟩: ∃N2,N2=n.kids.getD 0 0:=⟨_,rfl⟩
   rw[←hN2,Nat.add_zero] at hcell0
   have HN2:=Lib.hid hN2
   have hgb:g≠wr.heap.size:=fun e=>by have:=(HO.out.ge g (by simp[ndBk,blkOf])).1;omega
   have HT:=Lib.hid (fun(w3:World) (t:Touch [wr.heap.size] w2 w3)=>(t.cell (p:=⟨g,o,none⟩) hg (by simpa using hgb)).trans hcell0)
   have y1:(0:Int)<(n.kids.length:Int):=by have:=HK2.out;omega
   clear hcell hN2 hcell0
   go_wp2_with (refine wpList_store_node rfl (.tmp 9) (.tmp 28) rfl wr.heap.size false _ _ _ n (by first|rfl|exact hl) rfl rfl HR2.out (by simp[Value.oneCell']) ?_;intro w3 hr3 t3;have HNA:=Lib.hid (NodeAt.of_read (wa:=w2) HO.out HP2.out hw hr3 t3);have HS3:=Lib.hid ((HSR.out.trans HS2.out).trans (SameX.of_touch t3 (fun x hx=>⟨HP2.out.lt x (by simp[hx]),by have:=HPR.out.lt x hx;simp;omega⟩)));obtain⟨c0,c1,c2,c3⟩:=HNA.out.cells;rw[hl] at c0;have hcc:=HT.out _ t3;clear hr3 t3)
   clear HO HP2 HS2 HR2 HLB
   have q5:IntKind.i64.wrap ((i:Int)+1)=(i:Int)+1:=IntWalk.i64_in _ (by omega)
   go_wp2_with fail
   go_roundw
   case rel=>exact⟨⟨i+1,n.kids.getD 0 0,0,by rw[HN2.out],rfl,by go_num,by omega, .inl rfl,by rw[if_neg (by simp),show 16 - (i+1)=15 - i by omega];exact HQ.out,HNA.out.pgX.mono (by omega),HS3.out⟩⟩
   case measure=>simp[intOf];omega
  ·obtain⟨k1,k2,k3,k4⟩:=hok.leafs hl
   rw[hl,if_pos rfl] at hq1
   have HQ:=Lib.hid hq1
   have q5:IntKind.i64.wrap ((i:Int)+1)=(i:Int)+1:=IntWalk.i64_in _ (by omega)
   clear hq1 hok k1 k2 k3 k4
   go_wp2_with (refine wpList_store_node rfl (.tmp 9) (.tmp 28) rfl wr.heap.size true (.slice ka n.keys.length kc) (.slice va n.vals.length vc) (.slice ca n.kids.length cc) n (by first|rfl|exact hl) rfl rfl HR2.out (by simp[Value.oneCell']) ?_;intro w3 hr3 t3;have HNA:=Lib.hid (NodeAt.of_read (wa:=w2) HO.out HP2.out hw hr3 t3);have HS3:=Lib.hid ((HSR.out.trans HS2.out).trans (SameX.of_touch t3 (fun x hx=>⟨HP2.out.lt x (by simp[hx]),by have:=HPR.out.lt x hx;simp;omega⟩)));clear hr3 t3;obtain⟨c0,c1,c2,c3⟩:=HNA.out.cells;rw[hl] at c0)
   clear HO HP2 HS2 HR2 HLB
   go_ret2
   exact⟨by rw[HQ.out,show 16 - (15 - i)=i+1 by omega];rfl,HNA.out.pgX.mono (by omega),HS3.out⟩
end Go.Proofs.YtjgkegkinnlcoaaGreatDoor
