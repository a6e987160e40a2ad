/- Lemmas on the way to the statement: BtFeed. -/
import Derived.Test.YtjgkegkinnlcoaaGreatDoorJ22
set_option linter.unusedSimpArgs false
set_option linter.unusedVariables false
namespace Go.Proofs.YtjgkegkinnlcoaaGreatDoor
open Go.RowKit Go.Maps Go.Joins
section
variable {w0 w w1 w':World} {p K J B b:Nat} {M M':PM} {X Y Z:List Nat} {kv vv cv:Value} {lk lv lc:List Int} {f:Nat→Value}
theorem InSt.rebaseL (h:InSt w0 w w1 p K M X b B kv vv cv lk lv lc f) (hb:Below w1.heap.size w1 w') (hZ: ∀z∈Z,w1.heap.size≤z∧z<w'.heap.size):InSt w0 w' w' p K M (Z++X) b B kv vv cv lk lv lc f:=by
 have h2:=h.below hb
 have hlt:=h.pg.lt
 refine⟨h.pg.move hb (fun y hy=> ?_),h2.box,h2.ks,h2.vs,h2.cs,h2.nd,fun x hx=> ?_,h2.hb,h2.hB,SameX.refl _ _⟩
 ·simp only[List.mem_append,List.mem_cons] at hy ⊢
  rcases hy with hy|rfl|hy|hy
  ·simp[hy]
  ·simp
  ·exact .inr (hZ y hy)
  ·simp[hy]
 ·rcases List.mem_append.1 hx with hx|hx
  ·have:=hZ x hx
   exact⟨fun hm=>by have:=hlt x (by simp[hm]);omega,fun e=>by have:=hlt b (by simp);omega⟩
  ·exact h.xx x hx
theorem InSt.unbaseL (h:InSt w0 w1 w' p K M Y b B kv vv cv lk lv lc f) (hY: ∀x∈X,x∈Y) (hs:SameX X w w1):InSt w0 w w' p K M X b B kv vv cv lk lv lc f:=
 ⟨h.pg.sub (fun y hy=>by
  simp only[List.mem_append,List.mem_cons] at hy ⊢
  rcases hy with hy|hy|hy
  ·simp[hy]
  ·simp[hy]
  ·simp[hY y hy]),h.box,h.ks,h.vs,h.cs,h.nd,fun x hx=>h.xx x (hY x hx),h.hb,h.hB,hs.trans (h.sx.sub hY)⟩
theorem InSt.touchX {F:List Nat} (h:InSt w0 w w1 p K M X b B kv vv cv lk lv lc f) (t:Touch F w1 w') (hF: ∀x∈F,x∈X∧w0.heap.size≤x):InSt w0 w' w' p K M X b B kv vv cv lk lv lc f:=by
 have hoff: ∀x∈F,x∉ndBk kv vv cv∧x≠b:=fun x hx=>h.xx x (hF x hx).1
 exact⟨h.pg.touch t (fun x hx=>⟨by simp[(hF x hx).1],(hF x hx).2⟩),rowIs_touch h.box t (fun hm=>(hoff b hm).2 rfl),ownsRow_touch h.ks t (fun q hq hm=>(hoff q hm).1 (by simp[ndBk,blkOf_own h.ks,hq])),ownsRow_touch h.vs t (fun q hq hm=>(hoff q hm).1 (by simp[ndBk,blkOf_own h.vs,hq])),ownsRow_touch h.cs t (fun q hq hm=>(hoff q hm).1 (by simp[ndBk,blkOf_own h.cs,hq])),h.nd,h.xx,h.hb,h.hB,SameX.refl _ _⟩
theorem InSt.setK (h:InSt w0 w w1 p K M X b B kv vv cv lk lv lc f) {g c i:Nat} (hv:kv= .slice (some ⟨g,0,none⟩) lk.length c) (hi:i<lk.length) (x:Int):InSt w0 w (w1.setCell ⟨g,i,none⟩ (.int .u64 x)) p K M X b B kv vv cv (lk.set i x) lv lc f:=by
 have ho:=h.ks
 subst hv
 have:=ownsRow_setCell ho hi (x:= .int .u64 x) rfl
 refine h.newK (l':=lk.set i x) (by rw[List.length_set,List.map_set];exact this) ((Touch.refl _ _).setCell (.inl (by simp[blkOf])) _) (fun g hg=> .inl hg)
theorem InSt.monoK (h:InSt w0 w w' p K M X b B kv vv cv lk lv lc f) (hJ:K≤J):InSt w0 w w' p J M X b B kv vv cv lk lv lc f:=⟨h.pg.mono hJ,h.box,h.ks,h.vs,h.cs,h.nd,h.xx,h.hb,h.hB,h.sx⟩
end
theorem InsSt.of {w0 w wx:World} {p K J B b:Nat} {M:PM} {X:List Nat} {n:ND} {aK aV aC:Option Addr} {cK cV cC:Nat} (h:InSt w0 w wx p K M X b B (.slice aK n.keys.length cK) (.slice aV n.vals.length cV) (.slice aC n.kids.length cC) n.keys n.vals n.kids (ndF (.slice aK n.keys.length cK) (.slice aV n.vals.length cV) (.slice aC n.kids.length cC) n)) (hJ:K≤J):InsSt w0 w wx p J M X b B n:=⟨_,_,_,_,_,_,h.monoK hJ⟩
structure JdAt (w wx:World) (z:Nat) (kj vj cj:Value) (j:ND):Prop where
 row:wx.rowIs z 109 4 (ndF kj vj cj j)
 nd:NdI wx kj vj cj j
 below:Below w.heap.size w wx
 ge:w.heap.size≤z
 bk: ∀q∈ndBk kj vj cj,w.heap.size≤q∧q<wx.heap.size∧q≠z
set_option maxRecDepth 100000 in
set_option maxHeartbeats 8000000 in
theorem bfeed_any {w0 wB w:World} {p K b B:Nat} {M:PM} {X:List Nat} {n:ND} (h:InsSt w0 wB w p K M X b B n) (hK:K≤800000000000) (hl:n.leaf=false) (hs:NdSh n 40) {i:Nat} (hi:i<n.keys.length):
  Calls Tryz.prog 133 #[.pointer (some ⟨p,0,none⟩), .pointer (some ⟨b,0,none⟩), .int .i64 i] w fun e w'=>e= .returned (.int .i64 (feedB M n i).1)∧InsSt w0 wB w' p (K+100) (feedB M n i).2.2 X b B (feedB M n i).2.1:=by
 obtain⟨ka,kc,va,vc,ca,cc,hI⟩:=h
 have hkl:=(hs.fk hl).2.1
 have hkn:=hs.kl
 obtain⟨gk,cgk,hv⟩:=ownsRow_form hI.ks (by omega)
 injection hv with hva hvn hvc
 subst hva
 subst hvc
 obtain⟨g,cg,hv⟩:=ownsRow_form hI.cs (by omega)
 injection hv with hva hvn hvc
 subst hva
 subst hvc
 have hkey:0≤n.keys.getD i 0∧n.keys.getD i 0≤18446744073709551615:=by
  rw[List.getD_eq_getElem?_getD,List.getElem?_eq_getElem hi]
  exact hs.kb _ (List.getElem_mem _)
 have HRD:=Lib.hid (bread_any hI.pg (by omega) (n.kids.getD i 0))
 have hdn:=fun(no:Int) (hok:(ndRead M no).1=0)=>ndRead_ok (M:=M) (no:=no) (n:=(ndRead M no).2) (by rw[←hok])
 obtain⟨R,hR⟩: ∃R,R=feedB M n i:=⟨_,rfl⟩
 rw[←hR]
 unfold feedB at hR
 have hdn1:=hdn (n.kids.getD i 0)
 have hdn2:=hdn (n.kids.getD (i+1) 0)
 clear hdn
 obtain⟨no1,hno1⟩: ∃x,x=n.kids.getD i 0:=⟨_,rfl⟩
 obtain⟨no2,hno2⟩: ∃x,x=n.kids.getD (i+1) 0:=⟨_,rfl⟩
 obtain⟨key,hke⟩: ∃x,x=n.keys.getD i 0:=⟨_,rfl⟩
 have hkc: ∀(W:World),W.ownsRow B 3 1 (.slice (some ⟨g,0,none⟩) n.kids.length cc) n.kids.length (n.kids.map (Value.int .i64))→W.cell? ⟨g,i,none⟩=some (.int .i64 no1)∧W.cell? ⟨g,i+1,none⟩=some (.int .i64 no2):=fun W hW=>by
  obtain⟨-,hnc, -, -,ff,hff,hfx⟩:=ownsRow_rowIs hW
  refine⟨(World.rowIs.cell hff (by omega)).trans ?_,(World.rowIs.cell hff (by omega)).trans ?_⟩
  ·rw[hno1, ←hfx i (by omega),List.getElem?_map,getElem?_getD (by omega)];rfl
  ·rw[hno2, ←hfx (i+1) (by omega),List.getElem?_map,getElem?_getD (by omega)];rfl
 have hkk: ∀(W:World),W.ownsRow B 28 1 (.slice (some ⟨gk,0,none⟩) n.keys.length kc) n.keys.length (n.keys.map (Value.int .u64))→W.cell? ⟨gk,i,none⟩=some (.int .u64 key):=fun W hW=>by
  obtain⟨-,hnc, -, -,ff,hff,hfx⟩:=ownsRow_rowIs hW
  refine(World.rowIs.cell hff (by omega)).trans ?_
  rw[hke, ←hfx i (by omega),List.getElem?_map,getElem?_getD (by omega)];rfl
 rw[←hno1, ←hno2] at hR
 rw[←hke] at hR hkey
 rw[←hno1] at HRD hdn1
 rw[←hno2] at hdn2
 have HRD2:=fun(W:World) (J:Nat) (Y:List Nat) (h:PgX w0 W p J M Y) (hJ:J≤900000000000)=>Lib.hid (bread_any h (by omega) no2)
 generalize ndRead M no1=D1 at HRD hR hdn1
 generalize ndRead M no2=D2 at HRD2 hR hdn2
 obtain⟨e1,na⟩:=D1
 obtain⟨e2,nb⟩:=D2
 simp only at HRD HRD2 hR hdn1 hdn2
 have HR:=Lib.hid hR
 have HOK1:=Lib.hid hdn1
 have HOK2:=Lib.hid hdn2
 have HKC:=Lib.hid hkc
 have HKK:=Lib.hid hkk
 have HKEY:=Lib.hid hkey
 have HI:=Lib.hid hI
 have HNO:=Lib.hid (And.intro hno1 (And.intro hno2 hke))
 have HSH:=Lib.hid hs
 have HI0:=Lib.hid hi
 have HKL:=Lib.hid hkl
 obtain⟨c0,c1,c2,c3⟩:=ndF_cells hI.box
 obtain⟨k1,k2⟩:=hkc _ hI.cs
 have y1:(i:Int)<(n.kids.length:Int):=by omega
 have y2:(i:Int)+1<(n.kids.length:Int):=by omega
 have y3:(i:Int)<(n.keys.length:Int):=by omega
 have y4:(i:Int)≤1000:=by omega
 clear hR hdn1 hdn2 hkc hkk hkey hI hno1 hno2 hke hs hi hkl hkn
 go_enter Tryz.func133,Tryz.ntmps133
 go_wp2_with fail
 refine HRD.out.mono ?_
 rintro e w2 ⟨xk,xv,xc,rfl,ho,hp,hs⟩
 have HI2:=Lib.hid (HI.out.goZ hp hs (fun z hz=>(ho.ge z hz).1))
 have HX2:=Lib.hid (HI.out.sx.trans (hs.sub (fun y hy=>by simp[hy])))
 have HXL:=Lib.hid (fun x (hx:x∈X)=>HI2.out.pg.lt x (by simp[hx]))
 have HW02:=Lib.hid HI2.out.pg.below.size
 obtain⟨ak,akc,rfl⟩:=ho.i.ks.form
 obtain⟨av,avc,rfl⟩:=ho.i.vs.form
 obtain⟨ac,acc,rfl⟩:=ho.i.cs.form
 have HN2:=Lib.hid ho.i
 clear ho hp hs c0 c1 c2 c3 k1 k2 HRD
 unfold ndV
 by_cases he1:e1=0
 rotate_left
 ·have d1:(e1 != 0)=true:=by simpa using he1
  have hq:R=(e1,n,M):=by rw[HR.out,if_pos he1]
  go_wp2_with (refine wpList_store_node rfl (.tmp 7) (.tmp 23) rfl w2.heap.size na.leaf (.slice ak na.keys.length akc) (.slice av na.vals.length avc) (.slice ac na.kids.length acc) na rfl rfl rfl (node0_new w2) (by simp[Value.oneCell']) ?_;intro w3 hr3 t3;have HB3:=Lib.hid ((((Touch.refl [w2.heap.size] w2).alloc _).trans t3 (fun b hb=> .inl hb)).below (Nat.le_refl _) (fun x hx=>by simp at hx;omega));have HRA:=Lib.hid hr3;have HI3:=Lib.hid (HI2.out.rebaseL (Z:=[w2.heap.size]) HB3.out (fun z hz=>by simp at hz;subst hz;exact⟨Nat.le_refl _,World.rowIs.lt hr3⟩));obtain⟨c0,c1,c2,c3⟩:=ndF_cells HI3.out.box;obtain⟨k1,k2⟩:=HKC.out _ HI3.out.cs;clear hr3 t3)
  go_ret
  rw[hq]
  exact⟨rfl,InsSt.of (HI3.out.unbaseL (fun x hx=>by simp[hx]) (HX2.out.trans (SameX.of_below HB3.out (fun x hx=>HI2.out.pg.lt x (by simp[hx]))))) (by omega)⟩
 subst he1
 go_wp2_with (refine wpList_store_node rfl (.tmp 7) (.tmp 23) rfl w2.heap.size na.leaf (.slice ak na.keys.length akc) (.slice av na.vals.length avc) (.slice ac na.kids.length acc) na rfl rfl rfl (node0_new w2) (by simp[Value.oneCell']) ?_;intro w3 hr3 t3;have HB3:=Lib.hid ((((Touch.refl [w2.heap.size] w2).alloc _).trans t3 (fun b hb=> .inl hb)).below (Nat.le_refl _) (fun x hx=>by simp at hx;omega));have HRA:=Lib.hid hr3;have HI3:=Lib.hid (HI2.out.rebaseL (Z:=[w2.heap.size]) HB3.out (fun z hz=>by simp at hz;subst hz;exact⟨Nat.le_refl _,World.rowIs.lt hr3⟩));obtain⟨c0,c1,c2,c3⟩:=ndF_cells HI3.out.box;obtain⟨k1,k2⟩:=HKC.out _ HI3.out.cs;clear hr3 t3)
 have HX3:=Lib.hid (HX2.out.trans (SameX.of_below HB3.out (fun x hx=>HI2.out.pg.lt x (by simp[hx]))))
 have HN3:=Lib.hid (HN2.out.below HB3.out)
 have HZA:=Lib.hid (fun x (hx:x∈ndBk (.slice ak na.keys.length akc) (.slice av na.vals.length avc) (.slice ac na.kids.length acc))=>(show x∈[w2.heap.size]++(ndBk (.slice ak na.keys.length akc) (.slice av na.vals.length avc) (.slice ac na.kids.length acc)++X) by simp[hx]))
 refine(HRD2 _ _ _ HI3.out.pg (by omega)).out.mono ?_
 rintro e w4 ⟨xk,xv,xc,rfl,ho,hp,hs⟩
 have HI4:=Lib.hid (HI3.out.goZ hp hs (fun z hz=>(ho.ge z hz).1))
 have HX4:=Lib.hid (HX3.out.trans (hs.sub (fun y hy=>by simp[hy])))
 have HW04:=Lib.hid HI4.out.pg.below.size
 obtain⟨bk,bkc,rfl⟩:=ho.i.ks.form
 obtain⟨bv,bvc,rfl⟩:=ho.i.vs.form
 obtain⟨bc,bcc,rfl⟩:=ho.i.cs.form
 have HM4:=Lib.hid ho.i
 have HN4:=Lib.hid (HN3.out.same hs (fun x hx=>by simp[hx]))
 have HRA4:=Lib.hid (hs.row HRA.out (by simp))
 clear ho hp hs c0 c1 c2 c3 k1 k2 HRD2 HN2 HN3 HRA
 unfold ndV
 by_cases he2:e2=0
 rotate_left
 ·have d2:(e2 != 0)=true:=by simpa using he2
  have hq:R=(e2,n,M):=by rw[HR.out,if_neg (by simp),if_pos he2]
  go_wp2_with (refine wpList_store_node rfl (.tmp 9) (.tmp 39) rfl w4.heap.size nb.leaf (.slice bk nb.keys.length bkc) (.slice bv nb.vals.length bvc) (.slice bc nb.kids.length bcc) nb rfl rfl rfl (node0_new w4) (by simp[Value.oneCell']) ?_;intro w5 hr5 t5;have HB5:=Lib.hid ((((Touch.refl [w4.heap.size] w4).alloc _).trans t5 (fun b hb=> .inl hb)).below (Nat.le_refl _) (fun x hx=>by simp at hx;omega));have HRB:=Lib.hid hr5;have HRA5:=Lib.hid (rowIs_touch HRA4.out (F:=[]) (Touch.of_below HB5.out) (by simp));have HI5:=Lib.hid (HI4.out.rebaseL (Z:=[w4.heap.size]) HB5.out (fun z hz=>by simp at hz;subst hz;exact⟨Nat.le_refl _,World.rowIs.lt hr5⟩));obtain⟨c0,c1,c2,c3⟩:=ndF_cells HI5.out.box;obtain⟨a0,a1,a2,a3⟩:=ndF_cells HRA5.out;obtain⟨b0,b1,b2,b3⟩:=ndF_cells HRB.out;clear hr5 t5)
  have HX5:=Lib.hid (HX4.out.trans (SameX.of_below HB5.out (fun x hx=>HI4.out.pg.lt x (by simp[hx]))))
  go_ret
  rw[hq]
  exact⟨rfl,InsSt.of (HI5.out.unbaseL (fun x hx=>by simp[hx]) HX5.out) (by omega)⟩
 subst he2
 by_cases hlf:na.leaf=nb.leaf
 rotate_left
 ·have d3:(na.leaf==nb.leaf)=false:=by simpa using hlf
  have hq:R=(19,n,M):=by rw[HR.out,if_neg (by simp),if_neg (by simp),if_pos hlf]
  go_wp2_with (refine wpList_store_node rfl (.tmp 9) (.tmp 39) rfl w4.heap.size nb.leaf (.slice bk nb.keys.length bkc) (.slice bv nb.vals.length bvc) (.slice bc nb.kids.length bcc) nb rfl rfl rfl (node0_new w4) (by simp[Value.oneCell']) ?_;intro w5 hr5 t5;have HB5:=Lib.hid ((((Touch.refl [w4.heap.size] w4).alloc _).trans t5 (fun b hb=> .inl hb)).below (Nat.le_refl _) (fun x hx=>by simp at hx;omega));have HRB:=Lib.hid hr5;have HRA5:=Lib.hid (rowIs_touch HRA4.out (F:=[]) (Touch.of_below HB5.out) (by simp));have HI5:=Lib.hid (HI4.out.rebaseL (Z:=[w4.heap.size]) HB5.out (fun z hz=>by simp at hz;subst hz;exact⟨Nat.le_refl _,World.rowIs.lt hr5⟩));obtain⟨c0,c1,c2,c3⟩:=ndF_cells HI5.out.box;obtain⟨a0,a1,a2,a3⟩:=ndF_cells HRA5.out;obtain⟨b0,b1,b2,b3⟩:=ndF_cells HRB.out;clear hr5 t5)
  have HX5:=Lib.hid (HX4.out.trans (SameX.of_below HB5.out (fun x hx=>HI4.out.pg.lt x (by simp[hx]))))
  go_ret
  rw[hq]
  exact⟨rfl,InsSt.of (HI5.out.unbaseL (fun x hx=>by simp[hx]) HX5.out) (by omega)⟩
 have d3:(na.leaf==nb.leaf)=true:=by simpa using hlf
 obtain⟨j,hj⟩: ∃j,j=joinN na key nb:=⟨_,rfl⟩
 have hq:=HR.out
 rw[if_neg (by simp),if_neg (by simp),if_neg (by simpa using hlf)] at hq
 try simp only at hq
 rw[←hj] at hq
 have HQ:=Lib.hid hq
 have HJ:=Lib.hid hj
 have HLF:=Lib.hid hlf
 clear hq hj hlf HR
 go_upto_region 9 with (refine wpList_store_node rfl (.tmp 9) (.tmp 39) rfl w4.heap.size nb.leaf (.slice bk nb.keys.length bkc) (.slice bv nb.vals.length bvc) (.slice bc nb.kids.length bcc) nb rfl rfl rfl (node0_new w4) (by simp[Value.oneCell']) ?_;intro w5 hr5 t5;have HB5:=Lib.hid ((((Touch.refl [w4.heap.size] w4).alloc _).trans t5 (fun b hb=> .inl hb)).below (Nat.le_refl _) (fun x hx=>by simp at hx;omega));have HRB:=Lib.hid hr5;have HRA5:=Lib.hid (rowIs_touch HRA4.out (F:=[]) (Touch.of_below HB5.out) (by simp));have HI5:=Lib.hid (HI4.out.rebaseL (Z:=[w4.heap.size]) HB5.out (fun z hz=>by simp at hz;subst hz;exact⟨Nat.le_refl _,World.rowIs.lt hr5⟩));obtain⟨c0,c1,c2,c3⟩:=ndF_cells HI5.out.box;obtain⟨a0,a1,a2,a3⟩:=ndF_cells HRA5.out;obtain⟨b0,b1,b2,b3⟩:=ndF_cells HRB.out;clear hr5 t5)
 have HX5:=Lib.hid (HX4.out.trans (SameX.of_below HB5.out (fun x hx=>HI4.out.pg.lt x (by simp[hx]))))
 have k3:=HKK.out _ HI5.out.ks
 have HN5:=Lib.hid (HN4.out.below HB5.out)
 have HM5:=Lib.hid (HM4.out.below HB5.out)
 clear HN4 HM4 HRA4
 have HSH5:=Lib.hid (show NdSh j 81 by rw[HJ.out];exact NdSh.join (HOK1.out trivial).sh (HOK2.out trivial).sh HLF.out HKEY.out)
 go_cut [10] (fun s wx=> ∃z kj vj cj,s= .pointer (some ⟨z,0,none⟩)∧JdAt w5 wx z kj vj cj j)
 case first=>
  go_wp2_with fail
  have hS:(fun w':World=>w'.cell? ⟨w2.heap.size,0,none⟩=some (.bool na.leaf)∧w'.cell? ⟨w2.heap.size,1,none⟩=some (.slice ak na.keys.length akc)∧w'.cell? ⟨w2.heap.size,2,none⟩=some (.slice av na.vals.length avc)∧w'.cell? ⟨w2.heap.size,3,none⟩=some (.slice ac na.kids.length acc)∧w'.cell? ⟨w4.heap.size,0,none⟩=some (.bool nb.leaf)∧w'.cell? ⟨w4.heap.size,1,none⟩=some (.slice bk nb.keys.length bkc)∧w'.cell? ⟨w4.heap.size,2,none⟩=some (.slice bv nb.vals.length bvc)∧w'.cell? ⟨w4.heap.size,3,none⟩=some (.slice bc nb.kids.length bcc)∧w'.cell? ⟨b,1,none⟩=some (.slice (some ⟨gk,0,none⟩) n.keys.length kc)∧w'.cell? ⟨gk,i,none⟩=some (.int .u64 key)) w5:=⟨a0,a1,a2,a3,b0,b1,b2,b3,c1,k3⟩
  have HSB:=Lib.hid (fun(w':World) (t:Below w5.heap.size w5 w')=>(show(fun w':World=>w'.cell? ⟨w2.heap.size,0,none⟩=some (.bool na.leaf)∧w'.cell? ⟨w2.heap.size,1,none⟩=some (.slice ak na.keys.length akc)∧w'.cell? ⟨w2.heap.size,2,none⟩=some (.slice av na.vals.length avc)∧w'.cell? ⟨w2.heap.size,3,none⟩=some (.slice ac na.kids.length acc)∧w'.cell? ⟨w4.heap.size,0,none⟩=some (.bool nb.leaf)∧w'.cell? ⟨w4.heap.size,1,none⟩=some (.slice bk nb.keys.length bkc)∧w'.cell? ⟨w4.heap.size,2,none⟩=some (.slice bv nb.vals.length bvc)∧w'.cell? ⟨w4.heap.size,3,none⟩=some (.slice bc nb.kids.length bcc)∧w'.cell? ⟨b,1,none⟩=some (.slice (some ⟨gk,0,none⟩) n.keys.length kc)∧w'.cell? ⟨gk,i,none⟩=some (.int .u64 key)) w' from by
   have t1:=World.rowIs.lt HRA5.out
   have t2:=World.rowIs.lt HRB.out
   have t3:=World.rowIs.lt HI5.out.box
   have t4:=(HI5.out.ks.lt gk rfl).2
   exact⟨(t.cell (p:=⟨_,_,none⟩) t1).trans hS.1,(t.cell (p:=⟨_,_,none⟩) t1).trans hS.2.1,(t.cell (p:=⟨_,_,none⟩) t1).trans hS.2.2.1,(t.cell (p:=⟨_,_,none⟩) t1).trans hS.2.2.2.1,(t.cell (p:=⟨_,_,none⟩) t2).trans hS.2.2.2.2.1,(t.cell (p:=⟨_,_,none⟩) t2).trans hS.2.2.2.2.2.1,(t.cell (p:=⟨_,_,none⟩) t2).trans hS.2.2.2.2.2.2.1,(t.cell (p:=⟨_,_,none⟩) t2).trans hS.2.2.2.2.2.2.2.1,(t.cell (p:=⟨_,_,none⟩) t3).trans hS.2.2.2.2.2.2.2.2.1,(t.cell (p:=⟨_,_,none⟩) t4).trans hS.2.2.2.2.2.2.2.2.2⟩))
  have HB:=Lib.hid ((Touch.refl [] w5).drew.below (Nat.le_refl w5.heap.size) (by simp))
  have HS0:=Lib.hid (HSB.out _ HB.out)
  have HJN:=fun(W:World) (h1:NdI W (.slice ak na.keys.length akc) (.slice av na.vals.length avc) (.slice ac na.kids.length acc) na) (h2:NdI W (.slice bk nb.keys.length bkc) (.slice bv nb.vals.length bvc) (.slice bc nb.kids.length bcc) nb)=>Lib.hid (bjoin_any h1 h2 (HOK1.out trivial) (HOK2.out trivial) HLF.out key)
  rw[←HJ.out] at HJN
  unfold ndV at HJN
  clear hS c0 c1 c2 c3 a0 a1 a2 a3 b0 b1 b2 b3 k3 d3
  refine wp_region_noPanic ?_
  refine wp_region_par3 11 11 (by kernel_rfl) (by kernel_rfl) (by simp) (by omega) (by kernel_rfl) (by kernel_rfl) (fun w':World=>w'.cell? ⟨w2.heap.size,0,none⟩=some (.bool na.leaf)∧w'.cell? ⟨w2.heap.size,1,none⟩=some (.slice ak na.keys.length akc)∧w'.cell? ⟨w2.heap.size,2,none⟩=some (.slice av na.vals.length avc)∧w'.cell? ⟨w2.heap.size,3,none⟩=some (.slice ac na.kids.length acc)∧w'.cell? ⟨w4.heap.size,0,none⟩=some (.bool nb.leaf)∧w'.cell? ⟨w4.heap.size,1,none⟩=some (.slice bk nb.keys.length bkc)∧w'.cell? ⟨w4.heap.size,2,none⟩=some (.slice bv nb.vals.length bvc)∧w'.cell? ⟨w4.heap.size,3,none⟩=some (.slice bc nb.kids.length bcc)∧w'.cell? ⟨b,1,none⟩=some (.slice (some ⟨gk,0,none⟩) n.keys.length kc)∧w'.cell? ⟨gk,i,none⟩=some (.int .u64 key)) ?_
  refine par3_read (v:= ?_) 0 (by simp only[zga,zgb,zgc];rfl) (by kernel_rfl) (by rfl) HS0.out ?_ (fun _ _ _ h=>h) ?_
  rotate_left
  ·(intro w9 hSw;(try dsimp only at hSw);go_simp;try with_reducible rfl)
  simp only[Act.put,zpa,zpb,zpc]
  refine par3_move (v:= ?_) 1 (by simp only[zga,zgb,zgc];rfl) (by kernel_rfl) (by rfl) ?_ (fun _ _ _ h=>h) ?_
  rotate_left
  ·(intro w9;go_simp;try with_reducible rfl)
  simp only[Act.put,zpa,zpb,zpc]
  refine par3_move (v:= ?_) 2 (by simp only[zga,zgb,zgc];rfl) (by kernel_rfl) (by rfl) ?_ (fun _ _ _ h=>h) ?_
  rotate_left
  ·(intro w9;go_simp;try with_reducible rfl)
  simp only[Act.put,zpa,zpb,zpc]
  refine par3_move (v:= ?_) 3 (by simp only[zga,zgb,zgc];rfl) (by kernel_rfl) (by rfl) ?_ (fun _ _ _ h=>h) ?_
  rotate_left
  ·(intro w9;go_simp;try with_reducible rfl)
  simp only[Act.put,zpa,zpb,zpc]
  refine par3_read (v:= ?_) 4 (by simp only[zga,zgb,zgc];rfl) (by kernel_rfl) (by rfl) HS0.out ?_ (fun _ _ _ h=>h) ?_
  rotate_left
  ·(intro w9 hSw;(try dsimp only at hSw);go_simp;try with_reducible rfl)
  simp only[Act.put,zpa,zpb,zpc]
  refine par3_move (v:= ?_) 5 (by simp only[zga,zgb,zgc];rfl) (by kernel_rfl) (by rfl) ?_ (fun _ _ _ h=>h) ?_
  rotate_left
  ·(intro w9;go_simp;try with_reducible rfl)
  simp only[Act.put,zpa,zpb,zpc]
  refine par3_move (v:= ?_) 6 (by simp only[zga,zgb,zgc];rfl) (by kernel_rfl) (by rfl) ?_ (fun _ _ _ h=>h) ?_
  rotate_left
  ·(intro w9;go_simp;try with_reducible rfl)
  simp only[Act.put,zpa,zpb,zpc]
  refine par3_read (v:= ?_) 7 (by simp only[zga,zgb,zgc];rfl) (by kernel_rfl) (by rfl) HS0.out ?_ (fun _ _ _ h=>h) ?_
  rotate_left
  ·(intro w9 hSw;(try dsimp only at hSw);go_simp;try with_reducible rfl)
  simp only[Act.put,zpa,zpb,zpc]
  refine par3_read (v:= ?_) 8 (by simp only[zga,zgb,zgc];rfl) (by kernel_rfl) (by rfl) HS0.out ?_ (fun _ _ _ h=>h) ?_
  rotate_left
  ·(intro w9 hSw;(try dsimp only at hSw);go_simp;try with_reducible rfl)
  simp only[Act.put,zpa,zpb,zpc]
  refine par3_name (fun W8 hW8=> ?_)
  rw[←hW8] at HB
  clear hW8 HS0
  refine par3_two 9 10 (by simp only[zga,zgb,zgc];rfl) (by simp only[zga,zgb,zgc];rfl) (by kernel_rfl) (by rfl) (by rfl) ?_ ?_
  ·refine owp_call (by go_simp;constructor<;>rfl) ?_
   refine(HJN W8 (HN5.out.below HB.out) (HM5.out.below HB.out)).out.mono ?_
   rintro e W9 ⟨kj,vj,cj,rfl,ho,hb⟩
   have HG:=Lib.hid HB.out.size
   have HB:=Lib.hid (HB.out.trans (hb.mono HG.out))
   have HO:=Lib.hid ho
   refine⟨_,rfl,fun _ _=>HSB.out _ HB.out, ?_⟩
   clear hb ho
   simp only[Act.put,zpa,zpb,zpc]
   refine par3_one 10 (by simp only[zga,zgb,zgc];rfl) (by kernel_rfl) (by rfl) ?_
   refine owp_val (v:= ?_) (w1:= ?_) ?_ ?_
   rotate_left 2
   ·(go_simp;constructor<;>rfl)
   refine⟨fun _ _=>HSB.out _ (HB.out.alloc HB.out.size _), ?_⟩
   simp only[Act.put,zpa,zpb,zpc]
   refine par3_tail _ (by simp only[List.drop_succ_cons,List.drop_zero];rfl) (by kernel_rfl) ?_
   skip
   obtain⟨jk,jkc,rfl⟩:=HO.out.i.ks.form
   obtain⟨jv,jvc,rfl⟩:=HO.out.i.vs.form
   obtain⟨jc,jcc,rfl⟩:=HO.out.i.cs.form
   go_wp2_with (refine wpList_store_node rfl (.tmp 10) (.tmp 58) rfl W9.heap.size j.leaf (.slice jk j.keys.length jkc) (.slice jv j.vals.length jvc) (.slice jc j.kids.length jcc) j rfl rfl rfl (node0_new W9) (by simp[Value.oneCell']) ?_;intro w9 hr9 t9;have HR9:=Lib.hid hr9;have HT9:=Lib.hid t9;clear hr9 t9)
   refine NoPanic.normal ?_
   go_step
   go_step
   go_meet
   have hb9:=(((Touch.refl [W9.heap.size] W9).alloc _).trans HT9.out (fun b hb=> .inl hb)).below (Nat.le_refl W9.heap.size) (fun x hx=>by simp at hx;omega)
   exact⟨_,_,_,_,rfl,⟨HR9.out,HO.out.i.below hb9,HB.out.trans (hb9.mono HB.out.size),HB.out.size,fun q hq=>⟨Nat.le_trans HG.out (HO.out.ge q hq).1,Nat.lt_of_lt_of_le (HO.out.ge q hq).2 hb9.size,fun e=>by have:=(HO.out.ge q hq).2;omega⟩⟩⟩
  ·refine owp_val (v:= ?_) (w1:= ?_) ?_ ?_
   rotate_left 2
   ·(go_simp;constructor<;>rfl)
   refine⟨fun _ _=>HSB.out _ (HB.out.alloc HB.out.size _), ?_⟩
   simp only[Act.put,zpa,zpb,zpc]
   have HZ:=Lib.hid HB.out.size
   have HRZ:=Lib.hid (node0_new W8)
   have HBn:=Lib.hid (HB.out.alloc HB.out.size (.cells #[.bool false, .slice none 0 0, .slice none 0 0, .slice none 0 0] 109))
   have HLZ:=Lib.hid (show W8.heap.size<(W8.alloc (.cells #[.bool false, .slice none 0 0, .slice none 0 0, .slice none 0 0] 109)).heap.size by rw[World.size_alloc_eq];omega)
   refine par3_name (fun W9 hW=> ?_)
   rw[←hW] at HRZ HBn HLZ
   clear hW
   have HB:=HBn
   refine par3_one 9 (by simp only[zga,zgb,zgc];rfl) (by kernel_rfl) (by rfl) ?_
   refine owp_call (by go_simp;constructor<;>rfl) ?_
   refine(HJN W9 (HN5.out.below HB.out) (HM5.out.below HB.out)).out.mono ?_
   rintro e W10 ⟨kj,vj,cj,rfl,ho,hb⟩
   have HG:=Lib.hid HB.out.size
   have HB:=Lib.hid (HB.out.trans (hb.mono HG.out))
   have HO:=Lib.hid ho
   have HRZ2:=Lib.hid (rowIs_touch HRZ.out (F:=[]) (Touch.of_below hb) (by simp))
   refine⟨_,rfl,fun _ _=>HSB.out _ HB.out, ?_⟩
   clear hb ho
   simp only[Act.put,zpa,zpb,zpc]
   refine par3_tail _ (by simp only[List.drop_succ_cons,List.drop_zero];rfl) (by kernel_rfl) ?_
   skip
   obtain⟨jk,jkc,rfl⟩:=HO.out.i.ks.form
   obtain⟨jv,jvc,rfl⟩:=HO.out.i.vs.form
   obtain⟨jc,jcc,rfl⟩:=HO.out.i.cs.form
   go_wp2_with (refine wpList_store_node rfl (.tmp 10) (.tmp 58) rfl W8.heap.size j.leaf (.slice jk j.keys.length jkc) (.slice jv j.vals.length jvc) (.slice jc j.kids.length jcc) j rfl rfl rfl HRZ2.out (by simp[Value.oneCell']) ?_;intro w9 hr9 t9;have HR9:=Lib.hid hr9;have HT9:=Lib.hid t9;clear hr9 t9)
   refine NoPanic.normal ?_
   go_step
   go_step
   go_meet
   have hne: ∀q,W9.heap.size≤q→q≠W8.heap.size:=fun q hq e=>by have:=HLZ.out;omega
   exact⟨_,_,_,_,rfl,⟨HR9.out,HO.out.i.touch HT9.out (fun q hq=>by have:=hne q (HO.out.ge q hq).1;simpa using this),HB.out.trans (HT9.out.below HB.out.size (fun x hx=>by simp at hx;subst hx;exact HZ.out)),HZ.out,fun q hq=>⟨Nat.le_trans HG.out (HO.out.ge q hq).1,Nat.lt_of_lt_of_le (HO.out.ge q hq).2 HT9.out.size,hne q (HO.out.ge q hq).1⟩⟩⟩
 obtain⟨z,kj,vj,cj,rfl,hjd⟩:=hcut
 have HI6:=Lib.hid (HI5.out.rebaseL (Z:=z::ndBk kj vj cj) hjd.below (fun q hq=>by
  rcases List.mem_cons.1 hq with rfl|hq
  ·exact⟨hjd.ge,World.rowIs.lt hjd.row⟩
  ·exact⟨(hjd.bk q hq).1,(hjd.bk q hq).2.1⟩))
 have HX6:=Lib.hid (HX5.out.trans (SameX.of_below hjd.below (fun x hx=>HI5.out.pg.lt x (by simp[hx]))))
 have HRA6:=Lib.hid (rowIs_touch HRA5.out (F:=[]) (Touch.of_below hjd.below) (by simp))
 have HRB6:=Lib.hid (rowIs_touch HRB.out (F:=[]) (Touch.of_below hjd.below) (by simp))
 obtain⟨jk,jkc,rfl⟩:=hjd.nd.ks.form
 obtain⟨jv,jvc,rfl⟩:=hjd.nd.vs.form
 obtain⟨jc,jcc,rfl⟩:=hjd.nd.cs.form
 have hfu:=full_any hjd.nd
 have HJD:=Lib.hid hjd
 obtain⟨j0,j1,j2,j3⟩:=ndF_cells hjd.row
 unfold ndV at hfu
 have HFU:=Lib.hid hfu
 clear hfu hjd HRA5 HRB HN5 HM5 HOK1 HOK2
 by_cases hF:fullN j=false
 ·rw[hF] at HFU
  have hq:=HQ.out
  rw[if_pos hF] at hq
  have HFR:=fun(W:World) (J:Nat) (Y:List Nat) (h:PgX w0 W p J M Y) (hJ:J≤900000000000)=>Lib.hid (px_free h (by omega) no2)
  generalize freeP M no2=F at hq HFR
  obtain⟨fe,M5⟩:=F
  try simp only at hq HFR
  have HQ1:=Lib.hid hq
  clear hq HQ
  go_wp2_with fail
  refine HFU.out.mono ?_
  rintro e w7 ⟨rfl,hb⟩
  have HI7:=Lib.hid (HI6.out.below hb)
  have HZ7:=Lib.hid (rowIs_touch HJD.out.row (F:=[]) (Touch.of_below hb) (by simp))
  have HJ7:=Lib.hid (HJD.out.nd.below hb)
  obtain⟨c0,c1,c2,c3⟩:=ndF_cells HI7.out.box
  obtain⟨k1,k2⟩:=HKC.out _ HI7.out.cs
  clear hb HFU j0 j1 j2 j3
  go_wp2_with fail
  refine(HFR _ _ _ HI7.out.pg (by omega)).out.mono ?_
  rintro e w8 ⟨rfl,hp,hs⟩
  have HI8:=Lib.hid (HI7.out.go hp hs)
  have HZ8:=Lib.hid (hs.row HZ7.out (by simp))
  have HJ8:=Lib.hid (HJ7.out.same hs (fun q hq=>by simp[hq]))
  clear hp hs c0 c1 c2 c3 k1 k2 HFR HZ7 HJ7 HI7
  by_cases hfe:fe=0
  rotate_left
  ·have d4:(fe != 0)=true:=by simpa using hfe
   have hq:R=(fe,n,M5):=by rw[HQ1.out,if_pos hfe]
   go_wp2_with fail
   go_ret
   rw[hq]
   exact⟨rfl,InsSt.of (HI8.out.unbaseL (fun x hx=>by simp[hx]) HX6.out) (by omega)⟩
  subst hfe
  have hq:=HQ1.out
  rw[if_neg (by simp)] at hq
  have HQ2:=Lib.hid hq
  clear hq HQ1
  obtain⟨c0,c1,c2,c3⟩:=ndF_cells HI8.out.box
  go_wp2_with fail
  have hS:(fun w':World=>w'.cell? ⟨b,1,none⟩=some (.slice (some ⟨gk,0,none⟩) n.keys.length kc)∧w'.cell? ⟨b,3,none⟩=some (.slice (some ⟨g,0,none⟩) n.kids.length cc)) w8.drew:=⟨c1,c3⟩
  have HS0:=Lib.hid hS
  clear hS
  refine wp_region_noPanic ?_
  refine wp_region_par3 22 21 (by kernel_rfl) (by kernel_rfl) (by simp) (by omega) (by kernel_rfl) (by kernel_rfl) (fun w':World=>w'.cell? ⟨b,1,none⟩=some (.slice (some ⟨gk,0,none⟩) n.keys.length kc)∧w'.cell? ⟨b,3,none⟩=some (.slice (some ⟨g,0,none⟩) n.kids.length cc)) ?_
  refine par3_move (v:= ?_) 0 (by simp only[zga,zgb,zgc];rfl) (by kernel_rfl) (by rfl) ?_ (fun _ _ _ h=>h) ?_
  rotate_left
  ·(intro w9;go_simp;try with_reducible rfl)
  simp only[Act.put,zpa,zpb,zpc]
  refine par3_move (v:= ?_) 1 (by simp only[zga,zgb,zgc];rfl) (by kernel_rfl) (by rfl) ?_ (fun _ _ _ h=>h) ?_
  rotate_left
  ·(intro w9;go_simp;try with_reducible rfl)
  simp only[Act.put,zpa,zpb,zpc]
  refine par3_move (v:= ?_) 2 (by simp only[zga,zgb,zgc];rfl) (by kernel_rfl) (by rfl) ?_ (fun _ _ _ h=>h) ?_
  rotate_left
  ·(intro w9;go_simp;try with_reducible rfl)
  simp only[Act.put,zpa,zpb,zpc]
  refine par3_move (v:= ?_) 3 (by simp only[zga,zgb,zgc];rfl) (by kernel_rfl) (by rfl) ?_ (fun _ _ _ h=>h) ?_
  rotate_left
  ·(intro w9;go_simp;try with_reducible rfl)
  simp only[Act.put,zpa,zpb,zpc]
  refine par3_move (v:= ?_) 4 (by simp only[zga,zgb,zgc];rfl) (by kernel_rfl) (by rfl) ?_ (fun _ _ _ h=>h) ?_
  rotate_left
  ·(intro w9;go_simp;try with_reducible rfl)
  simp only[Act.put,zpa,zpb,zpc]
  refine par3_read (v:= ?_) 5 (by simp only[zga,zgb,zgc];rfl) (by kernel_rfl) (by rfl) HS0.out ?_ (fun _ _ _ h=>h) ?_
  rotate_left
  ·(intro w9 hSw;(try dsimp only at hSw);go_simp;try with_reducible rfl)
  simp only[Act.put,zpa,zpb,zpc]
  refine par3_move (v:= ?_) 6 (by simp only[zga,zgb,zgc];rfl) (by kernel_rfl) (by rfl) ?_ (fun _ _ _ h=>h) ?_
  rotate_left
  ·(intro w9;go_simp;try with_reducible rfl)
  simp only[Act.put,zpa,zpb,zpc]
  refine par3_move (v:= ?_) 7 (by simp only[zga,zgb,zgc];rfl) (by kernel_rfl) (by rfl) ?_ (fun _ _ _ h=>h) ?_
  rotate_left
  ·(intro w9;go_simp;try with_reducible rfl)
  simp only[Act.put,zpa,zpb,zpc]
  refine par3_move (v:= .int .i64 ((i+1:Nat):Int)) 8 (by simp only[zga,zgb,zgc];rfl) (by kernel_rfl) (by rfl) ?_ (fun _ _ _ h=>h) ?_
  ·intro w9
   have hw1:IntKind.i64.wrap ((i:Int)+1)=((i+1:Nat):Int):=by rw[IntWalk.i64_in _ (by omega)];omega
   go_simp
   first|done|(rw[hw1];done)|(simp[hw1];done)
  simp only[Act.put,zpa,zpb,zpc]
  refine par3_move (v:= ?_) 10 (by simp only[zga,zgb,zgc];rfl) (by kernel_rfl) (by rfl) ?_ (fun _ _ _ h=>h) ?_
  rotate_left
  ·(intro w9;go_simp;try with_reducible rfl)
  simp only[Act.put,zpa,zpb,zpc]
  refine par3_move (v:= ?_) 11 (by simp only[zga,zgb,zgc];rfl) (by kernel_rfl) (by rfl) ?_ (fun _ _ _ h=>h) ?_
  rotate_left
  ·(intro w9;go_simp;try with_reducible rfl)
  simp only[Act.put,zpa,zpb,zpc]
  refine par3_move (v:= ?_) 12 (by simp only[zga,zgb,zgc];rfl) (by kernel_rfl) (by rfl) ?_ (fun _ _ _ h=>h) ?_
  rotate_left
  ·(intro w9;go_simp;try with_reducible rfl)
  simp only[Act.put,zpa,zpb,zpc]
  refine par3_read (v:= ?_) 13 (by simp only[zga,zgb,zgc];rfl) (by kernel_rfl) (by rfl) HS0.out ?_ (fun _ _ _ h=>h) ?_
  rotate_left
  ·(intro w9 hSw;(try dsimp only at hSw);go_simp;try with_reducible rfl)
  simp only[Act.put,zpa,zpb,zpc]
  refine par3_move (v:= ?_) 14 (by simp only[zga,zgb,zgc];rfl) (by kernel_rfl) (by rfl) ?_ (fun _ _ _ h=>h) ?_
  rotate_left
  ·(intro w9;go_simp;try with_reducible rfl)
  simp only[Act.put,zpa,zpb,zpc]
  refine par3_move (v:= .int .i64 ((i+1:Nat):Int)) 15 (by simp only[zga,zgb,zgc];rfl) (by kernel_rfl) (by rfl) ?_ (fun _ _ _ h=>h) ?_
  ·intro w9
   have hw1:IntKind.i64.wrap ((i:Int)+1)=((i+1:Nat):Int):=by rw[IntWalk.i64_in _ (by omega)];omega
   go_simp
   first|done|(rw[hw1];done)|(simp[hw1];done)
  simp only[Act.put,zpa,zpb,zpc]
  refine par3_move (v:= ?_) 16 (by simp only[zga,zgb,zgc];rfl) (by kernel_rfl) (by rfl) ?_ (fun _ _ _ h=>h) ?_
  rotate_left
  ·(intro w9;go_simp;try with_reducible rfl)
  simp only[Act.put,zpa,zpb,zpc]
  refine par3_move (v:= .int .i64 ((i+2:Nat):Int)) 17 (by simp only[zga,zgb,zgc];rfl) (by kernel_rfl) (by rfl) ?_ (fun _ _ _ h=>h) ?_
  ·intro w9
   have hw1:IntKind.i64.wrap ((i:Int)+2)=((i+2:Nat):Int):=by rw[IntWalk.i64_in _ (by omega)];omega
   go_simp
   first|done|(rw[hw1];done)|(simp[hw1];done)
  simp only[Act.put,zpa,zpb,zpc]
  refine par3_name (fun W9 hW9=> ?_)
  have HI9:=Lib.hid (show InSt w0 _ W9 p _ M5 _ b B _ _ _ _ _ _ _ by rw[hW9];exact HI8.out.below ((Touch.refl [] w8).drew.below (Nat.le_refl _) (by simp)))
  have HZ9:=Lib.hid (show W9.rowIs z 109 4 (ndF (.slice jk j.keys.length jkc) (.slice jv j.vals.length jvc) (.slice jc j.kids.length jcc) j) by rw[hW9];exact HZ8.out)
  have HJ9:=Lib.hid (show NdI W9 (.slice jk j.keys.length jkc) (.slice jv j.vals.length jvc) (.slice jc j.kids.length jcc) j by rw[hW9];exact HJ8.out.below ((Touch.refl [] w8).drew.below (Nat.le_refl _) (by simp)))
  clear hW9 HS0 c0 c1 c2 c3 HZ8 HJ8 HI8
  refine par3_one 9 (by simp only[zga,zgb,zgc];rfl) (by kernel_rfl) (by rfl) ?_
  refine owp_call (by go_simp;constructor<;>rfl) ?_
  refine(dltU_any HI9.out.ks HI0.out).mono ?_
  rintro e W10 ⟨vK,rfl,ho,t,hbk⟩
  have HIn:=Lib.hid (HI9.out.newK (l':=n.keys.eraseIdx i) (by rw[List.length_eraseIdx,if_pos HI0.out];exact ho) t (fun q hq=> .inl (hbk▸hq)))
  have HTK:=Lib.hid t
  obtain⟨aK,cK,hfK⟩:=((HIn.out.nodeI false).ks).form
  try simp only at hfK
  subst hfK
  refine⟨_,rfl,fun s _=>⟨(World.rowIs.cell HIn.out.box (i:=1) (by decide)).trans ((World.rowIs.cell HI9.out.box (i:=1) (by decide)).symm.trans s.1),(World.rowIs.cell HIn.out.box (i:=3) (by decide)).trans ((World.rowIs.cell HI9.out.box (i:=3) (by decide)).symm.trans s.2)⟩, ?_⟩
  have HI10:=HIn
  have hoffK: ∀x,x∈X∨x∈[w4.heap.size]∨x∈[w2.heap.size]∨x∈z::ndBk (.slice jk j.keys.length jkc) (.slice jv j.vals.length jvc) (.slice jc j.kids.length jcc)→x∉blkOf (.slice (some ⟨gk,0,none⟩) n.keys.length kc)∧x∉blkOf (.slice (some ⟨g,0,none⟩) n.kids.length cc)∧x≠b:=fun x hx=>by
   have h2:=HI9.out.xx x (by
    rcases hx with hx|hx|hx|hx
    ·simp[hx]
    ·simp at hx;simp[hx]
    ·simp at hx;simp[hx]
    ·simp at hx;simp;rcases hx with hx|hx<;>simp[hx])
   simp only[ndBk,List.mem_append,not_or] at h2
   exact⟨h2.1.1,h2.1.2.2,h2.2⟩
  have HOF:=Lib.hid hoffK
  have HZ10:=Lib.hid (rowIs_touch HZ9.out t (HOF.out z (by simp)).1)
  have HJ10:=Lib.hid (HJ9.out.touch t (fun q hq=>(HOF.out q (by simp[hq])).1))
  clear ho t hbk hoffK HTK HI9 HZ9 HJ9
  simp only[Act.put,zpa,zpb,zpc]
  refine par3_one 18 (by simp only[zga,zgb,zgc];rfl) (by kernel_rfl) (by rfl) ?_
  refine owp_call (by go_simp;constructor<;>rfl) ?_
  refine(dltI_any (i:=i+1) HI10.out.cs (by have:=HKL.out;have:=HI0.out;omega)).mono ?_
  rintro e W11 ⟨vC,rfl,ho,t,hbk⟩
  have HIn:=Lib.hid (HI10.out.newC (l':=n.kids.eraseIdx (i+1)) (by rw[List.length_eraseIdx,if_pos (by have:=HKL.out;have:=HI0.out;omega)];exact ho) t (fun q hq=> .inl (hbk▸hq)))
  obtain⟨aC,cC,hfC⟩:=((HIn.out.nodeI false).cs).form
  try simp only at hfC
  subst hfC
  refine⟨_,rfl,fun s _=>⟨(World.rowIs.cell HIn.out.box (i:=1) (by decide)).trans ((World.rowIs.cell HI10.out.box (i:=1) (by decide)).symm.trans s.1),(World.rowIs.cell HIn.out.box (i:=3) (by decide)).trans ((World.rowIs.cell HI10.out.box (i:=3) (by decide)).symm.trans s.2)⟩, ?_⟩
  have HI11:=HIn
  have HZ11:=Lib.hid (rowIs_touch HZ10.out t (HOF.out z (by simp)).2.1)
  have HJ11:=Lib.hid (HJ10.out.touch t (fun q hq=>(HOF.out q (by simp[hq])).2.1))
  clear ho t hbk HI10 HZ10 HJ10
  simp only[Act.put,zpa,zpb,zpc]
  refine par3_move (v:= ?_) 19 (by simp only[zga,zgb,zgc];rfl) (by kernel_rfl) (by rfl) ?_ (fun _ _ _ h=>h) ?_
  rotate_left
  ·(intro w9;go_simp;try with_reducible rfl)
  simp only[Act.put,zpa,zpb,zpc]
  refine par3_move (v:= ?_) 20 (by simp only[zga,zgb,zgc];rfl) (by kernel_rfl) (by rfl) ?_ (fun _ _ _ h=>h) ?_
  rotate_left
  ·(intro w9;go_simp;try with_reducible rfl)
  simp only[Act.put,zpa,zpb,zpc]
  refine par3_one 21 (by simp only[zga,zgb,zgc];rfl) (by kernel_rfl) (by rfl) ?_
  have hc:=World.rowIs.cell HI11.out.box (i:=1) (by decide)
  have hz:=World.rowIs.frozen HI11.out.box 1
  have HI12:=Lib.hid (HI11.out.set ((Touch.refl [b] W11).setCell (p:=⟨b,1,none⟩) (.inl (by simp)) (.slice aK (n.keys.eraseIdx i).length cK)) (HI11.out.box.set 1 (.slice aK (n.keys.eraseIdx i).length cK)))
  have HZ12:=Lib.hid (rowIs_touch HZ11.out ((Touch.refl [b] W11).setCell (p:=⟨b,1,none⟩) (.inl (by simp)) (.slice aK (n.keys.eraseIdx i).length cK)) (by have:=(HOF.out z (by simp)).2.2;simpa using this))
  have HJ12:=Lib.hid (HJ11.out.touch ((Touch.refl [b] W11).setCell (p:=⟨b,1,none⟩) (.inl (by simp)) (.slice aK (n.keys.eraseIdx i).length cK)) (fun q hq=>by have:=(HOF.out q (by simp[hq])).2.2;simpa using this))
  refine owp_skip (w1:= ?_) ?_ ?_
  rotate_left
  ·(go_simp;first|rfl|(constructor<;>rfl))
  refine⟨fun _ h=>absurd h (by decide), ?_⟩
  clear hc hz
  simp only[Act.put,zpa,zpb,zpc]
  refine par3_name (fun W12 hW=> ?_)
  rw[←hW] at HI12 HZ12 HJ12
  clear hW HI11 HZ11 HJ11
  refine par3_tail _ (by simp only[List.drop_succ_cons,List.drop_zero];rfl) (by kernel_rfl) ?_
  skip
  have c3:=World.rowIs.cell HI12.out.box (i:=3) (by decide)
  have fz:=World.rowIs.frozen HI12.out.box
  go_wp2_with fail
  refine NoPanic.normal ?_
  have HIF:=Lib.hid (HI12.out.set ((Touch.refl [b] W12).setCell (p:=⟨b,3,none⟩) (.inl (by simp)) (.slice aC (n.kids.eraseIdx (i+1)).length cC)) (HI12.out.box.set 3 (.slice aC (n.kids.eraseIdx (i+1)).length cC)))
  have HZF:=Lib.hid (rowIs_touch HZ12.out ((Touch.refl [b] W12).setCell (p:=⟨b,3,none⟩) (.inl (by simp)) (.slice aC (n.kids.eraseIdx (i+1)).length cC)) (by have:=(HOF.out z (by simp)).2.2;simpa using this))
  have HJF:=Lib.hid (HJ12.out.touch ((Touch.refl [b] W12).setCell (p:=⟨b,3,none⟩) (.inl (by simp)) (.slice aC (n.kids.eraseIdx (i+1)).length cC)) (fun q hq=>by have:=(HOF.out q (by simp[hq])).2.2;simpa using this))
  go_step
  go_step
  refine wp_name (fun W13 hW=> ?_)
  rw[hW] at HIF HZF HJF
  have HI13:=Lib.hid (ndSt_congr (f':=ndF (.slice aK (n.keys.eraseIdx i).length cK) (.slice va n.vals.length vc) (.slice aC (n.kids.eraseIdx (i+1)).length cC) ⟨n.leaf,n.keys.eraseIdx i,n.vals,n.kids.eraseIdx (i+1)⟩) HIF.out (fun q hq=>by rcases q with _|_|_|_|q<;>first|rfl|(exfalso;omega)))
  clear hW c3 fz HI12 HZ12 HJ12 HIF
  have hkl2:(n.kids.eraseIdx (i+1)).length=n.keys.length:=by have:=HKL.out;have:=HI0.out;rw[List.length_eraseIdx,if_pos (by omega)];omega
  have hcs:=HI13.out.cs
  obtain⟨g2,cg2,hv⟩:=ownsRow_form hcs (by have:=HI0.out;omega)
  injection hv with hva hvn hvc
  subst hva
  subst hvc
  have k4:W13.cell? ⟨g2,i,none⟩=some (.int .i64 no1):=by
   obtain⟨-,hnc, -, -,ff,hff,hfx⟩:=ownsRow_rowIs hcs
   have h0:=HI0.out
   have h1:=HKL.out
   refine(World.rowIs.cell hff (by omega)).trans ?_
   rw[←hfx i (by omega),List.getElem?_map,List.getElem?_eraseIdx_of_lt (by omega),getElem?_getD (by omega), ←HNO.out.1];rfl
  obtain⟨NK,hNK⟩: ∃q,q=(n.kids.eraseIdx (i+1)).length:=⟨_,rfl⟩
  obtain⟨c0,c1,c2,c3⟩:=ndF_cells HI13.out.box
  obtain⟨j0,j1,j2,j3⟩:=ndF_cells HZF.out
  have HWR:=Lib.hid (show Calls Tryz.prog 127 #[.pointer (some ⟨p,0,none⟩), .int .i64 no1, .agg #[.bool j.leaf, .slice jk j.keys.length jkc, .slice jv j.vals.length jvc, .slice jc j.kids.length jcc]] W13.drew _ from bwrite_any (HI13.out.pg.moveX ((Touch.refl [] W13).drew.below (Nat.le_refl _) (by simp))) (by omega) (HJF.out.below ((Touch.refl [] W13).drew.below (Nat.le_refl _) (by simp))) HSH5.out (by omega) no1)
  have hq:=HQ2.out
  try simp only at hq
  generalize writeB M5 no1 j=F at HWR hq
  obtain⟨fw,M7⟩:=F
  try simp only at HWR hq
  have HQ3:=Lib.hid hq
  have y5:(i:Int)<(NK:Int):=by have:=HI0.out;omega
  rw[←hNK] at c3
  have HNK:=Lib.hid hNK
  clear hq HQ2 hkl2 hcs hNK hvn
  go_wp2_with fail
  have hS:(fun w':World=>w'.cell? ⟨b,3,none⟩=some (.slice (some ⟨g2,0,none⟩) NK cC)∧w'.cell? ⟨g2,i,none⟩=some (.int .i64 no1)∧w'.cell? ⟨z,0,none⟩=some (.bool j.leaf)∧w'.cell? ⟨z,1,none⟩=some (.slice jk j.keys.length jkc)∧w'.cell? ⟨z,2,none⟩=some (.slice jv j.vals.length jvc)∧w'.cell? ⟨z,3,none⟩=some (.slice jc j.kids.length jcc)) W13.drew:=⟨c3,k4,j0,j1,j2,j3⟩
  have HS0:=Lib.hid hS
  clear hS
  refine wp_region_noPanic ?_
  refine wp_region_par3 10 10 (by kernel_rfl) (by kernel_rfl) (by simp) (by omega) (by kernel_rfl) (by kernel_rfl) (fun w':World=>w'.cell? ⟨b,3,none⟩=some (.slice (some ⟨g2,0,none⟩) NK cC)∧w'.cell? ⟨g2,i,none⟩=some (.int .i64 no1)∧w'.cell? ⟨z,0,none⟩=some (.bool j.leaf)∧w'.cell? ⟨z,1,none⟩=some (.slice jk j.keys.length jkc)∧w'.cell? ⟨z,2,none⟩=some (.slice jv j.vals.length jvc)∧w'.cell? ⟨z,3,none⟩=some (.slice jc j.kids.length jcc)) ?_
  refine par3_move (v:= ?_) 0 (by simp only[zga,zgb,zgc];rfl) (by kernel_rfl) (by rfl) ?_ (fun _ _ _ h=>h) ?_
  rotate_left
  ·(intro w9;go_simp;try with_reducible rfl)
  simp only[Act.put,zpa,zpb,zpc]
  refine par3_move (v:= ?_) 1 (by simp only[zga,zgb,zgc];rfl) (by kernel_rfl) (by rfl) ?_ (fun _ _ _ h=>h) ?_
  rotate_left
  ·(intro w9;go_simp;try with_reducible rfl)
  simp only[Act.put,zpa,zpb,zpc]
  refine par3_move (v:= ?_) 2 (by simp only[zga,zgb,zgc];rfl) (by kernel_rfl) (by rfl) ?_ (fun _ _ _ h=>h) ?_
  rotate_left
  ·(intro w9;go_simp;try with_reducible rfl)
  simp only[Act.put,zpa,zpb,zpc]
  refine par3_move (v:= ?_) 3 (by simp only[zga,zgb,zgc];rfl) (by kernel_rfl) (by rfl) ?_ (fun _ _ _ h=>h) ?_
  rotate_left
  ·(intro w9;go_simp;try with_reducible rfl)
  simp only[Act.put,zpa,zpb,zpc]
  refine par3_read (v:= ?_) 4 (by simp only[zga,zgb,zgc];rfl) (by kernel_rfl) (by rfl) HS0.out ?_ (fun _ _ _ h=>h) ?_
  rotate_left
  ·(intro w9 hSw;(try dsimp only at hSw);go_simp;try with_reducible rfl)
  simp only[Act.put,zpa,zpb,zpc]
  refine par3_move (v:= ?_) 5 (by simp only[zga,zgb,zgc];rfl) (by kernel_rfl) (by rfl) ?_ (fun _ _ _ h=>h) ?_
  rotate_left
  ·(intro w9;go_simp;try with_reducible rfl)
  simp only[Act.put,zpa,zpb,zpc]
  refine par3_move (v:= ?_) 6 (by simp only[zga,zgb,zgc];rfl) (by kernel_rfl) (by rfl) ?_ (fun _ _ _ h=>h) ?_
  rotate_left
  ·(intro w9;go_simp;try with_reducible rfl)
  simp only[Act.put,zpa,zpb,zpc]
  refine par3_read (v:= ?_) 7 (by simp only[zga,zgb,zgc];rfl) (by kernel_rfl) (by rfl) HS0.out ?_ (fun _ _ _ h=>h) ?_
  rotate_left
  ·(intro w9 hSw;(try dsimp only at hSw);go_simp;try with_reducible rfl)
  simp only[Act.put,zpa,zpb,zpc]
  refine par3_read (v:= ?_) 8 (by simp only[zga,zgb,zgc];rfl) (by kernel_rfl) (by rfl) HS0.out ?_ (fun _ _ _ h=>h) ?_
  rotate_left
  ·(intro w9 hSw;(try dsimp only at hSw);go_simp;try with_reducible rfl)
  simp only[Act.put,zpa,zpb,zpc]
  refine par3_one 9 (by simp only[zga,zgb,zgc];rfl) (by kernel_rfl) (by rfl) ?_
  refine owp_call (by go_simp;constructor<;>rfl) ?_
  refine HWR.out.mono ?_
  rintro e W14 ⟨rfl,hp,hs⟩
  have hi:=HI13.out.below ((Touch.refl [] W13).drew.below (Nat.le_refl _) (by simp))
  have HI14:=Lib.hid (hi.go hp hs)
  refine⟨_,rfl,fun s _=>⟨(hs.cell (by simp)).trans s.1,(hs.cell (by simp[ndBk,blkOf])).trans s.2.1,(hs.cell (by simp)).trans s.2.2.1,(hs.cell (by simp)).trans s.2.2.2.1,(hs.cell (by simp)).trans s.2.2.2.2.1,(hs.cell (by simp)).trans s.2.2.2.2.2⟩, ?_⟩
  clear hp hs hi
  simp only[Act.put,zpa,zpb,zpc]
  refine par3_tail _ (by simp only[List.drop_succ_cons,List.drop_zero];rfl) (by kernel_rfl) ?_
  skip
  go_wp2_with fail
  refine NoPanic.normal ?_
  go_wp2_with fail
  go_ret
  rw[HQ3.out]
  have hNK:=HNK.out
  subst hNK
  exact⟨rfl,InsSt.of (n:=⟨n.leaf,n.keys.eraseIdx i,n.vals,n.kids.eraseIdx (i+1)⟩) (HI14.out.unbaseL (fun x hx=>by simp[hx]) HX6.out) (by omega)⟩
 ·have hF:fullN j=true:=by simpa using hF
  rw[hF] at HFU
  have h3:3≤j.keys.length:=by
   unfold fullN at hF
   simp only[Bool.or_eq_true,Bool.and_eq_true,decide_eq_true_eq] at hF
   omega
  have hjl:=HSH5.out.kl
  have hq:=HQ.out
  rw[if_neg (by rw[hF];decide)] at hq
  have HHV:=fun(W:World) (h:NdI W (.slice jk j.keys.length jkc) (.slice jv j.vals.length jvc) (.slice jc j.kids.length jcc) j)=>Lib.hid (halves_any h HSH5.out h3 (by omega))
  have HSA:=Lib.hid (HSH5.out.halfA (by omega))
  have HSB2:=Lib.hid (HSH5.out.halfB (by omega))
  obtain⟨nA,hnA⟩: ∃q,q=halfA j:=⟨_,rfl⟩
  obtain⟨nB,hnB⟩: ∃q,q=halfB j:=⟨_,rfl⟩
  obtain⟨hK2,hhK⟩: ∃q,q=halfK j:=⟨_,rfl⟩
  rw[←hnA] at HSA hq
  rw[←hnB] at HSB2 hq
  rw[←hhK] at hq
  unfold HfPost ndV at HHV
  simp only[←hnA, ←hnB, ←hhK] at HHV
  have HWA:=fun(W:World) (J:Nat) (Y:List Nat) (x1 x2 x3:Value) (h:PgX w0 W p J M Y) (hJ:J≤900000000000) (hn:NdI W x1 x2 x3 nA)=>Lib.hid (bwrite_any h (by omega) hn HSA.out (by omega) no1)
  unfold ndV at HWA
  generalize writeB M no1 nA=FA at hq HWA
  obtain⟨ea,M7⟩:=FA
  try simp only at hq HWA
  have HWB:=fun(W:World) (J:Nat) (Y:List Nat) (x1 x2 x3:Value) (h:PgX w0 W p J M7 Y) (hJ:J≤900000000000) (hn:NdI W x1 x2 x3 nB)=>Lib.hid (bwrite_any h (by omega) hn HSB2.out (by omega) no2)
  unfold ndV at HWB
  generalize writeB M7 no2 nB=FB at hq HWB
  obtain⟨eb,M9⟩:=FB
  try simp only at hq HWB
  have HQ1:=Lib.hid hq
  have HGE:=Lib.hid (show w2.heap.size<w4.heap.size∧w4.heap.size<w5.heap.size∧w5.heap.size≤z from by
   have h1:=HI4.out.pg.lt w2.heap.size (by simp)
   have h2:=HI5.out.pg.lt w4.heap.size (by simp)
   exact⟨h1,h2,HJD.out.ge⟩)
  clear hq HQ hF h3 hjl hnA hnB hhK
  go_wp2_with fail
  refine HFU.out.mono ?_
  rintro e w7 ⟨rfl,hb⟩
  have HI7:=Lib.hid (HI6.out.below hb)
  have HZ7:=Lib.hid (rowIs_touch HJD.out.row (F:=[]) (Touch.of_below hb) (by simp))
  have HJ7:=Lib.hid (HJD.out.nd.below hb)
  have HRA7:=Lib.hid (rowIs_touch HRA6.out (F:=[]) (Touch.of_below hb) (by simp))
  have HRB7:=Lib.hid (rowIs_touch HRB6.out (F:=[]) (Touch.of_below hb) (by simp))
  obtain⟨c0,c1,c2,c3⟩:=ndF_cells HI7.out.box
  clear hb HFU j0 j1 j2 j3 HRA6 HRB6 HI6
  obtain⟨j0,j1,j2,j3⟩:=ndF_cells HZ7.out
  go_wp2_with fail
  have hS:(fun w':World=>w'.cell? ⟨b,1,none⟩=some (.slice (some ⟨gk,0,none⟩) n.keys.length kc)∧w'.cell? ⟨z,0,none⟩=some (.bool j.leaf)∧w'.cell? ⟨z,1,none⟩=some (.slice jk j.keys.length jkc)∧w'.cell? ⟨z,2,none⟩=some (.slice jv j.vals.length jvc)∧w'.cell? ⟨z,3,none⟩=some (.slice jc j.kids.length jcc)) w7.drew:=⟨c1,j0,j1,j2,j3⟩
  have HS0:=Lib.hid hS
  clear hS
  have hne:=HI7.out.nd
  have HNB:=Lib.hid (show b≠w2.heap.size∧b≠w4.heap.size∧b≠gk∧z≠gk∧w2.heap.size≠gk∧w4.heap.size≠gk∧z≠b from by
   have h2:=HI7.out.xx w2.heap.size (by simp)
   have h4:=HI7.out.xx w4.heap.size (by simp)
   have hz:=HI7.out.xx z (by simp)
   simp only[ndBk,blkOf,List.mem_append,not_or,List.mem_singleton] at h2 h4 hz
   refine⟨fun e=>h2.2 e.symm,fun e=>h4.2 e.symm,fun e=> ?_,hz.1.1,h2.1.1,h4.1.1,hz.2⟩
   have:=(List.nodup_cons.1 hne).1
   exact this (by rw[e];simp[ndBk,blkOf]))
  refine wp_region_noPanic ?_
  refine wp_region_par3 14 14 (by kernel_rfl) (by kernel_rfl) (by simp) (by omega) (by kernel_rfl) (by kernel_rfl) (fun w':World=>w'.cell? ⟨b,1,none⟩=some (.slice (some ⟨gk,0,none⟩) n.keys.length kc)∧w'.cell? ⟨z,0,none⟩=some (.bool j.leaf)∧w'.cell? ⟨z,1,none⟩=some (.slice jk j.keys.length jkc)∧w'.cell? ⟨z,2,none⟩=some (.slice jv j.vals.length jvc)∧w'.cell? ⟨z,3,none⟩=some (.slice jc j.kids.length jcc)) ?_
  refine par3_move (v:= ?_) 0 (by simp only[zga,zgb,zgc];rfl) (by kernel_rfl) (by rfl) ?_ (fun _ _ _ h=>h) ?_
  rotate_left
  ·(intro w9;go_simp;try with_reducible rfl)
  simp only[Act.put,zpa,zpb,zpc]
  refine par3_move (v:= ?_) 1 (by simp only[zga,zgb,zgc];rfl) (by kernel_rfl) (by rfl) ?_ (fun _ _ _ h=>h) ?_
  rotate_left
  ·(intro w9;go_simp;try with_reducible rfl)
  simp only[Act.put,zpa,zpb,zpc]
  refine par3_move (v:= ?_) 2 (by simp only[zga,zgb,zgc];rfl) (by kernel_rfl) (by rfl) ?_ (fun _ _ _ h=>h) ?_
  rotate_left
  ·(intro w9;go_simp;try with_reducible rfl)
  simp only[Act.put,zpa,zpb,zpc]
  refine par3_read (v:= ?_) 3 (by simp only[zga,zgb,zgc];rfl) (by kernel_rfl) (by rfl) HS0.out ?_ (fun _ _ _ h=>h) ?_
  rotate_left
  ·(intro w9 hSw;(try dsimp only at hSw);go_simp;try with_reducible rfl)
  simp only[Act.put,zpa,zpb,zpc]
  refine par3_move (v:= ?_) 4 (by simp only[zga,zgb,zgc];rfl) (by kernel_rfl) (by rfl) ?_ (fun _ _ _ h=>h) ?_
  rotate_left
  ·(intro w9;go_simp;try with_reducible rfl)
  simp only[Act.put,zpa,zpb,zpc]
  refine par3_read (v:= ?_) 5 (by simp only[zga,zgb,zgc];rfl) (by kernel_rfl) (by rfl) HS0.out ?_ (fun _ _ _ h=>h) ?_
  rotate_left
  ·(intro w9 hSw;(try dsimp only at hSw);go_simp;try with_reducible rfl)
  simp only[Act.put,zpa,zpb,zpc]
  have HI8:=Lib.hid (HI7.out.below ((Touch.refl [] w7).drew.below (Nat.le_refl _) (by simp)))
  have HJ8:=Lib.hid (HJ7.out.below ((Touch.refl [] w7).drew.below (Nat.le_refl _) (by simp)))
  have HZ8:=Lib.hid (show w7.drew.rowIs z 109 4 _ from HZ7.out)
  have HRA8:=Lib.hid (show w7.drew.rowIs w2.heap.size 109 4 _ from HRA7.out)
  have HRB8:=Lib.hid (show w7.drew.rowIs w4.heap.size 109 4 _ from HRB7.out)
  refine par3_name (fun W8 hW8=> ?_)
  rw[←hW8] at HI8 HJ8 HZ8 HRA8 HRB8
  clear hW8 HS0 c0 c1 c2 c3 j0 j1 j2 j3 HI7 HJ7 HZ7 HRA7 HRB7 hne
  refine par3_one 6 (by simp only[zga,zgb,zgc];rfl) (by kernel_rfl) (by rfl) ?_
  refine owp_call (by go_simp;constructor<;>rfl) ?_
  refine(HHV W8 HJ8.out).out.mono ?_
  rintro e W9 ⟨xk,xv,xc,uk,uv,uc,rfl,hA,hB,hAb,hBb,hb⟩
  obtain⟨xk,xkc,rfl⟩:=hA.ks.form
  obtain⟨xv,xvc,rfl⟩:=hA.vs.form
  obtain⟨xc,xcc,rfl⟩:=hA.cs.form
  obtain⟨uk,ukc,rfl⟩:=hB.ks.form
  obtain⟨uv,uvc,rfl⟩:=hB.vs.form
  obtain⟨uc,ucc,rfl⟩:=hB.cs.form
  have HI9:=Lib.hid (HI8.out.below hb)
  have HZ9:=Lib.hid (rowIs_touch HZ8.out (F:=[]) (Touch.of_below hb) (by simp))
  have HRA9:=Lib.hid (rowIs_touch HRA8.out (F:=[]) (Touch.of_below hb) (by simp))
  have HRB9:=Lib.hid (rowIs_touch HRB8.out (F:=[]) (Touch.of_below hb) (by simp))
  have HA9:=Lib.hid hA
  have HB9:=Lib.hid hB
  have HAB:=Lib.hid hAb
  have HBB:=Lib.hid hBb
  refine⟨_,rfl,fun s _=>⟨(World.rowIs.cell HI9.out.box (i:=1) (by decide)).trans ((World.rowIs.cell HI8.out.box (i:=1) (by decide)).symm.trans s.1),ndF_cells HZ9.out⟩, ?_⟩
  clear hA hB hAb hBb hb HI8 HZ8 HJ8 HRA8 HRB8
  simp only[Act.put,zpa,zpb,zpc]
  refine par3_move (v:= ?_) 7 (by simp only[zga,zgb,zgc];rfl) (by kernel_rfl) (by rfl) ?_ (fun _ _ _ h=>h) ?_
  rotate_left
  ·(intro w9;go_simp;try with_reducible rfl)
  simp only[Act.put,zpa,zpb,zpc]
  refine par3_move (v:= ?_) 8 (by simp only[zga,zgb,zgc];rfl) (by kernel_rfl) (by rfl) ?_ (fun _ _ _ h=>h) ?_
  rotate_left
  ·(intro w9;go_simp;try with_reducible rfl)
  simp only[Act.put,zpa,zpb,zpc]
  refine par3_move (v:= ?_) 9 (by simp only[zga,zgb,zgc];rfl) (by kernel_rfl) (by rfl) ?_ (fun _ _ _ h=>h) ?_
  rotate_left
  ·(intro w9;go_simp;try with_reducible rfl)
  simp only[Act.put,zpa,zpb,zpc]
  refine par3_move (v:= ?_) 10 (by simp only[zga,zgb,zgc];rfl) (by kernel_rfl) (by rfl) ?_ (fun _ _ _ h=>h) ?_
  rotate_left
  ·(intro w9;go_simp;try with_reducible rfl)
  simp only[Act.put,zpa,zpb,zpc]
  have HJB:=Lib.hid (fun q (hq:q∈ndBk (.slice jk j.keys.length jkc) (.slice jv j.vals.length jvc) (.slice jc j.kids.length jcc))=>(show q≠w2.heap.size∧q≠w4.heap.size∧q≠gk∧q≠b from by
   have h1:=(HJD.out.bk q hq).1
   have h2:=HGE.out
   have h4:=HI9.out.xx q (by simp[hq])
   have h5:=h4.1
   simp only[ndBk,blkOf,List.mem_append,not_or,List.mem_singleton] at h5
   exact⟨by omega,by omega,h5.1,h4.2⟩))
  refine par3_one 11 (by simp only[zga,zgb,zgc];rfl) (by kernel_rfl) (by rfl) ?_
  refine owp_store_node (.tmp 7) (.tmp 116) rfl w2.heap.size nA.leaf (.slice xk nA.keys.length xkc) (.slice xv nA.vals.length xvc) (.slice xc nA.kids.length xcc) nA rfl rfl rfl HRA9.out (by simp[Value.oneCell']) ?_
  intro W10 hr t
  have HZ10:=Lib.hid (rowIs_touch HZ9.out t (by have:=HGE.out;simp;omega))
  have HI10:=Lib.hid (HI9.out.touchX t (fun x hx=>by simp at hx;subst hx;exact⟨by simp,HW02.out⟩))
  have HX10:=Lib.hid (HX6.out.trans ((HI9.out.sx.sub (Y:=X) (fun x hx=>by simp[hx])).trans (SameX.of_touch t (fun x hx=>⟨HI9.out.pg.lt x (by simp[hx]),by have:=HXL.out x hx;simp;omega⟩))))
  have HRA10:=Lib.hid hr
  have HRB10:=Lib.hid (rowIs_touch HRB9.out t (by have:=HGE.out;simp;omega))
  have HA10:=Lib.hid (HA9.out.touch t (fun q hq=>by have:=(HJB.out q (HAB.out q hq)).1;simpa using this))
  have HB10:=Lib.hid (HB9.out.touch t (fun q hq=>by have:=(HJB.out q (HBB.out q hq)).1;simpa using this))
  refine⟨fun s _=>⟨(World.rowIs.cell HI10.out.box (i:=1) (by decide)).trans ((World.rowIs.cell HI9.out.box (i:=1) (by decide)).symm.trans s.1),ndF_cells HZ10.out⟩, ?_⟩
  clear hr t HI9 HZ9 HRA9 HRB9 HA9 HB9
  simp only[Act.put,zpa,zpb,zpc]
  refine par3_move (v:= ?_) 12 (by simp only[zga,zgb,zgc];rfl) (by kernel_rfl) (by rfl) ?_ (fun _ _ _ h=>h) ?_
  rotate_left
  ·(intro w9;go_simp;try with_reducible rfl)
  simp only[Act.put,zpa,zpb,zpc]
  refine par3_one 13 (by simp only[zga,zgb,zgc];rfl) (by kernel_rfl) (by rfl) ?_
  have hc:=HKK.out _ HI10.out.ks
  have hz:W10.frozen? ⟨gk,i,none⟩=false:=by
   obtain⟨-,hnc, -, -,ff,hff,hfx⟩:=ownsRow_rowIs HI10.out.ks
   exact World.rowIs.frozen hff i
  refine owp_skip (w1:= ?_) ?_ ?_
  rotate_left
  ·(go_simp;first|rfl|(constructor<;>rfl))
  have ht:Touch [gk] W10 (W10.setCell ⟨gk,i,none⟩ (.int .u64 hK2)):=(Touch.refl [gk] W10).setCell (.inl (by simp)) _
  have HI11:=Lib.hid (HI10.out.setK rfl HI0.out hK2)
  have HZ11:=Lib.hid (rowIs_touch HZ10.out ht (by have:=HNB.out.2.2.2.1;simpa using this))
  have HRA11:=Lib.hid (rowIs_touch HRA10.out ht (by have:=HNB.out.2.2.2.2.1;simpa using this))
  have HRB11:=Lib.hid (rowIs_touch HRB10.out ht (by have:=HNB.out.2.2.2.2.2.1;simpa using this))
  have HA11:=Lib.hid (HA10.out.touch ht (fun q hq=>by have:=(HJB.out q (HAB.out q hq)).2.2.1;simpa using this))
  have HB11:=Lib.hid (HB10.out.touch ht (fun q hq=>by have:=(HJB.out q (HBB.out q hq)).2.2.1;simpa using this))
  refine⟨fun s _=>⟨(World.rowIs.cell HI11.out.box (i:=1) (by decide)).trans ((World.rowIs.cell HI10.out.box (i:=1) (by decide)).symm.trans s.1),ndF_cells HZ11.out⟩, ?_⟩
  clear hc hz ht
  simp only[Act.put,zpa,zpb,zpc]
  refine par3_name (fun W11 hW=> ?_)
  rw[←hW] at HI11 HZ11 HRA11 HRB11 HA11 HB11
  clear hW HI10 HZ10 HRA10 HRB10 HA10 HB10
  refine par3_tail _ (by simp only[List.drop_succ_cons,List.drop_zero];rfl) (by kernel_rfl) ?_
  skip
  go_wp2_with (refine wpList_store_node rfl (.tmp 9) (.tmp 118) rfl w4.heap.size nB.leaf (.slice uk nB.keys.length ukc) (.slice uv nB.vals.length uvc) (.slice uc nB.kids.length ucc) nB rfl rfl rfl HRB11.out (by simp[Value.oneCell']) ?_;intro W12 hr t;have HRB12:=Lib.hid hr;have HT12:=Lib.hid t;clear hr t)
  refine NoPanic.normal ?_
  go_step
  go_step
  have HI12:=Lib.hid (HI11.out.touchX HT12.out (fun x hx=>by simp at hx;subst hx;exact⟨by simp,HW04.out⟩))
  have HX12:=Lib.hid (HX10.out.trans ((HI11.out.sx.sub (Y:=X) (fun x hx=>by simp[hx])).trans (SameX.of_touch HT12.out (fun x hx=>⟨HI11.out.pg.lt x (by simp[hx]),by have:=HXL.out x hx;have:=HGE.out;simp;omega⟩))))
  have HRA12:=Lib.hid (rowIs_touch HRA11.out HT12.out (by have:=HGE.out;simp;omega))
  have HA12:=Lib.hid (HA11.out.touch HT12.out (fun q hq=>by have:=(HJB.out q (HAB.out q hq)).2.1;simpa using this))
  have HB12:=Lib.hid (HB11.out.touch HT12.out (fun q hq=>by have:=(HJB.out q (HBB.out q hq)).2.1;simpa using this))
  clear HI11 HZ11 HRA11 HRB11 HA11 HB11 HT12
  obtain⟨c0,c1,c2,c3⟩:=ndF_cells HI12.out.box
  obtain⟨k1,k2⟩:=HKC.out _ HI12.out.cs
  obtain⟨a0,a1,a2,a3⟩:=ndF_cells HRA12.out
  have HWR:=HWA W12.drew _ _ _ _ _ (HI12.out.pg.moveX ((Touch.refl [] W12).drew.below (Nat.le_refl _) (by simp))) (by omega) (HA12.out.below ((Touch.refl [] W12).drew.below (Nat.le_refl _) (by simp)))
  have hS:(fun w':World=>w'.cell? ⟨b,3,none⟩=some (.slice (some ⟨g,0,none⟩) n.kids.length cc)∧w'.cell? ⟨g,i,none⟩=some (.int .i64 no1)∧w'.cell? ⟨w2.heap.size,0,none⟩=some (.bool nA.leaf)∧w'.cell? ⟨w2.heap.size,1,none⟩=some (.slice xk nA.keys.length xkc)∧w'.cell? ⟨w2.heap.size,2,none⟩=some (.slice xv nA.vals.length xvc)∧w'.cell? ⟨w2.heap.size,3,none⟩=some (.slice xc nA.kids.length xcc)) W12.drew:=⟨c3,k1,a0,a1,a2,a3⟩
  have HS0:=Lib.hid hS
  clear hS HWA
  go_wp2_with fail
  refine wp_region_noPanic ?_
  refine wp_region_par3 10 10 (by kernel_rfl) (by kernel_rfl) (by simp) (by omega) (by kernel_rfl) (by kernel_rfl) (fun w':World=>w'.cell? ⟨b,3,none⟩=some (.slice (some ⟨g,0,none⟩) n.kids.length cc)∧w'.cell? ⟨g,i,none⟩=some (.int .i64 no1)∧w'.cell? ⟨w2.heap.size,0,none⟩=some (.bool nA.leaf)∧w'.cell? ⟨w2.heap.size,1,none⟩=some (.slice xk nA.keys.length xkc)∧w'.cell? ⟨w2.heap.size,2,none⟩=some (.slice xv nA.vals.length xvc)∧w'.cell? ⟨w2.heap.size,3,none⟩=some (.slice xc nA.kids.length xcc)) ?_
  refine par3_move (v:= ?_) 0 (by simp only[zga,zgb,zgc];rfl) (by kernel_rfl) (by rfl) ?_ (fun _ _ _ h=>h) ?_
  rotate_left
  ·(intro w9;go_simp;try with_reducible rfl)
  simp only[Act.put,zpa,zpb,zpc]
  refine par3_move (v:= ?_) 1 (by simp only[zga,zgb,zgc];rfl) (by kernel_rfl) (by rfl) ?_ (fun _ _ _ h=>h) ?_
  rotate_left
  ·(intro w9;go_simp;try with_reducible rfl)
  simp only[Act.put,zpa,zpb,zpc]
  refine par3_move (v:= ?_) 2 (by simp only[zga,zgb,zgc];rfl) (by kernel_rfl) (by rfl) ?_ (fun _ _ _ h=>h) ?_
  rotate_left
  ·(intro w9;go_simp;try with_reducible rfl)
  simp only[Act.put,zpa,zpb,zpc]
  refine par3_move (v:= ?_) 3 (by simp only[zga,zgb,zgc];rfl) (by kernel_rfl) (by rfl) ?_ (fun _ _ _ h=>h) ?_
  rotate_left
  ·(intro w9;go_simp;try with_reducible rfl)
  simp only[Act.put,zpa,zpb,zpc]
  refine par3_read (v:= ?_) 4 (by simp only[zga,zgb,zgc];rfl) (by kernel_rfl) (by rfl) HS0.out ?_ (fun _ _ _ h=>h) ?_
  rotate_left
  ·(intro w9 hSw;(try dsimp only at hSw);go_simp;try with_reducible rfl)
  simp only[Act.put,zpa,zpb,zpc]
  refine par3_move (v:= ?_) 5 (by simp only[zga,zgb,zgc];rfl) (by kernel_rfl) (by rfl) ?_ (fun _ _ _ h=>h) ?_
  rotate_left
  ·(intro w9;go_simp;try with_reducible rfl)
  simp only[Act.put,zpa,zpb,zpc]
  refine par3_move (v:= ?_) 6 (by simp only[zga,zgb,zgc];rfl) (by kernel_rfl) (by rfl) ?_ (fun _ _ _ h=>h) ?_
  rotate_left
  ·(intro w9;go_simp;try with_reducible rfl)
  simp only[Act.put,zpa,zpb,zpc]
  refine par3_read (v:= ?_) 7 (by simp only[zga,zgb,zgc];rfl) (by kernel_rfl) (by rfl) HS0.out ?_ (fun _ _ _ h=>h) ?_
  rotate_left
  ·(intro w9 hSw;(try dsimp only at hSw);go_simp;try with_reducible rfl)
  simp only[Act.put,zpa,zpb,zpc]
  refine par3_read (v:= ?_) 8 (by simp only[zga,zgb,zgc];rfl) (by kernel_rfl) (by rfl) HS0.out ?_ (fun _ _ _ h=>h) ?_
  rotate_left
  ·(intro w9 hSw;(try dsimp only at hSw);go_simp;try with_reducible rfl)
  simp only[Act.put,zpa,zpb,zpc]
  clear c0 c1 c2 c3 k1 k2 a0 a1 a2 a3
  refine par3_one 9 (by simp only[zga,zgb,zgc];rfl) (by kernel_rfl) (by rfl) ?_
  refine owp_call (by go_simp;constructor<;>rfl) ?_
  refine HWR.out.mono ?_
  rintro e W13 ⟨rfl,hp,hs⟩
  have HI13:=Lib.hid ((HI12.out.below ((Touch.refl [] W12).drew.below (Nat.le_refl _) (by simp))).go hp hs)
  have HRB13:=Lib.hid (hs.row (show W12.drew.rowIs w4.heap.size 109 4 _ from HRB12.out) (by simp))
  have HB13:=Lib.hid ((HB12.out.below ((Touch.refl [] W12).drew.below (Nat.le_refl _) (by simp))).same hs (fun q hq=>by have:=HBB.out q hq;simp[this]))
  refine⟨_,rfl,fun s _=>⟨(hs.cell (by simp)).trans s.1,(hs.cell (by simp[ndBk,blkOf])).trans s.2.1,(hs.cell (by simp)).trans s.2.2.1,(hs.cell (by simp)).trans s.2.2.2.1,(hs.cell (by simp)).trans s.2.2.2.2.1,(hs.cell (by simp)).trans s.2.2.2.2.2⟩, ?_⟩
  clear hp hs HI12 HRA12 HA12 HB12 HRB12
  simp only[Act.put,zpa,zpb,zpc]
  refine par3_tail _ (by simp only[List.drop_succ_cons,List.drop_zero];rfl) (by kernel_rfl) ?_
  skip
  go_wp2_with fail
  refine NoPanic.normal ?_
  go_step
  go_step
  have hfin: ∀(J:Nat) (W:World) (MM:PM) (Y:List Nat),InSt w0 W12 W p J MM Y b B (.slice (some ⟨gk,0,none⟩) n.keys.length kc) (.slice va n.vals.length vc) (.slice (some ⟨g,0,none⟩) n.kids.length cc) (n.keys.set i hK2) n.vals n.kids (ndF (.slice (some ⟨gk,0,none⟩) n.keys.length kc) (.slice va n.vals.length vc) (.slice (some ⟨g,0,none⟩) n.kids.length cc) n)→J≤K+100→(∀x∈X,x∈Y)→InsSt w0 wB W p (K+100) MM X b B ⟨n.leaf,n.keys.set i hK2,n.vals,n.kids⟩:=fun J W MM Y h hJ hY=>by
   refine⟨some ⟨gk,0,none⟩,kc,va,vc,some ⟨g,0,none⟩,cc, ?_⟩
   simp only[List.length_set]
   exact ndSt_congr ((InSt.unbaseL (X:=X) h hY HX12.out).monoK hJ) (fun q hq=>by rcases q with _|_|_|_|q<;>first|rfl|(exfalso;omega))
  have HFIN:=Lib.hid hfin
  clear hfin
  by_cases hea:ea=0
  rotate_left
  ·have d5:(ea != 0)=true:=by simpa using hea
   have hq:R=(ea,⟨n.leaf,n.keys.set i hK2,n.vals,n.kids⟩,M7):=by rw[HQ1.out,if_pos hea]
   go_wp2_with fail
   go_ret
   rw[hq]
   exact⟨rfl,HFIN.out _ _ _ _ HI13.out (by omega) (fun x hx=>by simp[hx])⟩
  subst hea
  have hq:=HQ1.out
  rw[if_neg (by simp)] at hq
  have HQ2:=Lib.hid hq
  clear hq HQ1
  obtain⟨c0,c1,c2,c3⟩:=ndF_cells HI13.out.box
  obtain⟨k1,k2⟩:=HKC.out _ HI13.out.cs
  obtain⟨a0,a1,a2,a3⟩:=ndF_cells HRB13.out
  have HWR:=HWB W13.drew _ _ _ _ _ (HI13.out.pg.moveX ((Touch.refl [] W13).drew.below (Nat.le_refl _) (by simp))) (by omega) (HB13.out.below ((Touch.refl [] W13).drew.below (Nat.le_refl _) (by simp)))
  have hS:(fun w':World=>w'.cell? ⟨b,3,none⟩=some (.slice (some ⟨g,0,none⟩) n.kids.length cc)∧w'.cell? ⟨g,i+1,none⟩=some (.int .i64 no2)∧w'.cell? ⟨w4.heap.size,0,none⟩=some (.bool nB.leaf)∧w'.cell? ⟨w4.heap.size,1,none⟩=some (.slice uk nB.keys.length ukc)∧w'.cell? ⟨w4.heap.size,2,none⟩=some (.slice uv nB.vals.length uvc)∧w'.cell? ⟨w4.heap.size,3,none⟩=some (.slice uc nB.kids.length ucc)) W13.drew:=⟨c3,k2,a0,a1,a2,a3⟩
  have HS0:=Lib.hid hS
  have y6:((i+1:Nat):Int)<(n.kids.length:Int):=by omega
  have y7:i+1<n.kids.length:=by omega
  have y8:(0:Int)≤(i:Int)+1:=by omega
  clear hS HWB
  go_wp2_with fail
  refine wp_region_noPanic ?_
  refine wp_region_par3 11 11 (by kernel_rfl) (by kernel_rfl) (by simp) (by omega) (by kernel_rfl) (by kernel_rfl) (fun w':World=>w'.cell? ⟨b,3,none⟩=some (.slice (some ⟨g,0,none⟩) n.kids.length cc)∧w'.cell? ⟨g,i+1,none⟩=some (.int .i64 no2)∧w'.cell? ⟨w4.heap.size,0,none⟩=some (.bool nB.leaf)∧w'.cell? ⟨w4.heap.size,1,none⟩=some (.slice uk nB.keys.length ukc)∧w'.cell? ⟨w4.heap.size,2,none⟩=some (.slice uv nB.vals.length uvc)∧w'.cell? ⟨w4.heap.size,3,none⟩=some (.slice uc nB.kids.length ucc)) ?_
  refine par3_move (v:= ?_) 0 (by simp only[zga,zgb,zgc];rfl) (by kernel_rfl) (by rfl) ?_ (fun _ _ _ h=>h) ?_
  rotate_left
  ·(intro w9;go_simp;try with_reducible rfl)
  simp only[Act.put,zpa,zpb,zpc]
  refine par3_move (v:= ?_) 1 (by simp only[zga,zgb,zgc];rfl) (by kernel_rfl) (by rfl) ?_ (fun _ _ _ h=>h) ?_
  rotate_left
  ·(intro w9;go_simp;try with_reducible rfl)
  simp only[Act.put,zpa,zpb,zpc]
  refine par3_move (v:= ?_) 2 (by simp only[zga,zgb,zgc];rfl) (by kernel_rfl) (by rfl) ?_ (fun _ _ _ h=>h) ?_
  rotate_left
  ·(intro w9;go_simp;try with_reducible rfl)
  simp only[Act.put,zpa,zpb,zpc]
  refine par3_move (v:= ?_) 3 (by simp only[zga,zgb,zgc];rfl) (by kernel_rfl) (by rfl) ?_ (fun _ _ _ h=>h) ?_
  rotate_left
  ·(intro w9;go_simp;try with_reducible rfl)
  simp only[Act.put,zpa,zpb,zpc]
  refine par3_read (v:= ?_) 4 (by simp only[zga,zgb,zgc];rfl) (by kernel_rfl) (by rfl) HS0.out ?_ (fun _ _ _ h=>h) ?_
  rotate_left
  ·(intro w9 hSw;(try dsimp only at hSw);go_simp;try with_reducible rfl)
  simp only[Act.put,zpa,zpb,zpc]
  refine par3_move (v:= ?_) 5 (by simp only[zga,zgb,zgc];rfl) (by kernel_rfl) (by rfl) ?_ (fun _ _ _ h=>h) ?_
  rotate_left
  ·(intro w9;go_simp;try with_reducible rfl)
  simp only[Act.put,zpa,zpb,zpc]
  refine par3_move (v:= .int .i64 ((i+1:Nat):Int)) 6 (by simp only[zga,zgb,zgc];rfl) (by kernel_rfl) (by rfl) ?_ (fun _ _ _ h=>h) ?_
  ·intro w9
   have hw1:IntKind.i64.wrap ((i:Int)+1)=((i+1:Nat):Int):=by rw[IntWalk.i64_in _ (by omega)];omega
   go_simp
   first|done|(rw[hw1];done)|(simp[hw1];done)
  simp only[Act.put,zpa,zpb,zpc]
  refine par3_move (v:= ?_) 7 (by simp only[zga,zgb,zgc];rfl) (by kernel_rfl) (by rfl) ?_ (fun _ _ _ h=>h) ?_
  rotate_left
  ·(intro w9;go_simp;try with_reducible rfl)
  simp only[Act.put,zpa,zpb,zpc]
  refine par3_read (v:= ?_) 8 (by simp only[zga,zgb,zgc];rfl) (by kernel_rfl) (by rfl) HS0.out ?_ (fun _ _ _ h=>h) ?_
  rotate_left
  ·(intro w9 hSw;(try dsimp only at hSw);go_simp;try with_reducible rfl)
  simp only[Act.put,zpa,zpb,zpc]
  refine par3_read (v:= ?_) 9 (by simp only[zga,zgb,zgc];rfl) (by kernel_rfl) (by rfl) HS0.out ?_ (fun _ _ _ h=>h) ?_
  rotate_left
  ·(intro w9 hSw;(try dsimp only at hSw);go_simp;try with_reducible rfl)
  simp only[Act.put,zpa,zpb,zpc]
  clear c0 c1 c2 c3 k1 k2 a0 a1 a2 a3
  refine par3_one 10 (by simp only[zga,zgb,zgc];rfl) (by kernel_rfl) (by rfl) ?_
  refine owp_call (by go_simp;constructor<;>rfl) ?_
  refine HWR.out.mono ?_
  rintro e W14 ⟨rfl,hp,hs⟩
  have HI14:=Lib.hid ((HI13.out.below ((Touch.refl [] W13).drew.below (Nat.le_refl _) (by simp))).go hp hs)
  refine⟨_,rfl,fun s _=>⟨(hs.cell (by simp)).trans s.1,(hs.cell (by simp[ndBk,blkOf])).trans s.2.1,(hs.cell (by simp)).trans s.2.2.1,(hs.cell (by simp)).trans s.2.2.2.1,(hs.cell (by simp)).trans s.2.2.2.2.1,(hs.cell (by simp)).trans s.2.2.2.2.2⟩, ?_⟩
  clear hp hs HI13
  simp only[Act.put,zpa,zpb,zpc]
  refine par3_tail _ (by simp only[List.drop_succ_cons,List.drop_zero];rfl) (by kernel_rfl) ?_
  skip
  go_wp2_with fail
  refine NoPanic.normal ?_
  go_wp2_with fail
  go_ret
  rw[HQ2.out]
  exact⟨rfl,HFIN.out _ _ _ _ HI14.out (by omega) (fun x hx=>by simp[hx])⟩
end Go.Proofs.YtjgkegkinnlcoaaGreatDoor
