/- Lemmas on the way to the statement: Pager9, PagerA, Redo9, PagerB, PagerC. -/
import Derived.Test.YtjgkegkinnlcoaaGreatDoorJ25
set_option linter.unusedSimpArgs false
set_option linter.unusedVariables false
namespace Go.Proofs.YtjgkegkinnlcoaaGreatDoor
open Go.RowKit Go.Maps Go.Joins
structure CoLoop (w w5:World) (hb nh:Nat) (hot:Int→Option ByteArray) (v:Value) (wr:World):Prop where
 ex: ∃(l:List Int) (left:Int→Bool) (cnt:Nat),l.Nodup∧(∀x,x∈l↔((hot x).isSome=true∧left x=false))∧wr.ownsRow (w.heap.size+1+1+1) 3 1 v l.length (l.map (Value.int .i64))∧
  RngT wr Tryz.prog 3 hb (w.heap.size+1+1) nh (Value.int .i64) Value.string hot left cnt∧Below (w.heap.size+1+1) w5 wr∧w.heap.size+1+1+1≤wr.heap.size
theorem CoLoop.bound {hot:Int→Option ByteArray} {most:Nat} (hd: ∀i s,hot i=some s→0≤i∧i<most) {l:List Int} {left:Int→Bool} (hn:l.Nodup) (hm: ∀x,x∈l↔((hot x).isSome=true∧left x=false)):l.length≤most:=by
 have h1:(keysI (fun x=>(hot x).isSome&& !left x) most).Nodup:=(keysI_sorted _ _).imp (fun h e=>by omega)
 have hp:l.Perm (keysI (fun x=>(hot x).isSome&& !left x) most):=(List.perm_ext_iff_of_nodup hn h1).2 (fun x=>by
  rw[hm,keysI_mem]
  constructor
  ·rintro ⟨a,b⟩
   obtain⟨s,hs⟩:=Option.isSome_iff_exists.1 a
   have:=hd x s hs
   exact⟨this.1,this.2,by simp[a,b]⟩
  ·rintro ⟨_,_,c⟩
   simp at c
   exact c)
 rw[hp.length_eq,keysI_length]
 exact cntI_leN _ _
structure WrLoop (w8:World) (d cb:Nat) (FD:List Nat) (M:PM) (L:List Int) (v:Value) (wr:World):Prop where
 ex: ∃j:Nat,j≤L.length∧v= .int .i64 j∧ApSt w8 d cb FD wr (layN (0,M.m) M.hot M.size (L.take j))
theorem pgF_congr {d lb pb hb:Nat} {M1 M2:PM} (h1:M1.size=M2.size) (h2:M1.gen=M2.gen) (h3:M1.most=M2.most) (h4:M1.dead=M2.dead) (i:Nat):pgF d lb pb hb M1 i=pgF d lb pb hb M2 i:=by
 rcases i with _|_|_|_|_|_|_|i
 ·rfl
 ·rfl
 ·show Value.int .i64 M1.size=Value.int .i64 M2.size;rw[h1]
 ·show Value.int .u64 M1.gen=Value.int .u64 M2.gen;rw[h2]
 ·show Value.int .i64 M1.most=Value.int .i64 M2.most;rw[h3]
 ·rfl
 ·rfl
 ·show Value.bool M1.dead=Value.bool M2.dead;rw[h4]
theorem pgF_gen {d lb pb hb:Nat} {M M2:PM} {w:World} {b:Nat} (h:w.rowIs b 132 8 (pgF d lb pb hb M)) (h1:M.size=M2.size) (h3:M.most=M2.most) (h4:M.dead=M2.dead):(w.setCell ⟨b,3,none⟩ (.int .u64 M2.gen)).rowIs b 132 8 (pgF d lb pb hb M2):=
 World.rowIs.congr (World.rowIs.set h 3 (.int .u64 M2.gen)) (fun i hi=>by
  rcases i with _|_|_|_|_|_|_|_|i
  ·rfl
  ·rfl
  ·show Value.int .i64 M.size=Value.int .i64 M2.size;rw[h1]
  ·rfl
  ·show Value.int .i64 M.most=Value.int .i64 M2.most;rw[h3]
  ·rfl
  ·rfl
  ·show Value.bool M.dead=Value.bool M2.dead;rw[h4]
  ·omega)
theorem pgF_dead {d lb pb hb:Nat} {M M2:PM} {w:World} {b:Nat} (h:w.rowIs b 132 8 (pgF d lb pb hb M)) (h1:M.size=M2.size) (h2:M.gen=M2.gen) (h3:M.most=M2.most):(w.setCell ⟨b,7,none⟩ (.bool M2.dead)).rowIs b 132 8 (pgF d lb pb hb M2):=
 World.rowIs.congr (World.rowIs.set h 7 (.bool M2.dead)) (fun i hi=>by
  rcases i with _|_|_|_|_|_|_|_|i
  ·rfl
  ·rfl
  ·show Value.int .i64 M.size=Value.int .i64 M2.size;rw[h1]
  ·show Value.int .u64 M.gen=Value.int .u64 M2.gen;rw[h2]
  ·show Value.int .i64 M.most=Value.int .i64 M2.most;rw[h3]
  ·rfl
  ·rfl
  ·rfl
  ·omega)
section
variable {w w' w1 w2:World} {b d lb pb hb K J k:Nat} {FD FP F1:List Nat} {M M':PM}
set_option maxRecDepth 100000 in
set_option maxHeartbeats 8000000 in
theorem lay_any (h:PgIn w b d lb pb hb FD FP K k M) (hk:k≤100000000):
  Calls Tryz.prog 94 #[.pointer (some ⟨b,0,none⟩)] w fun e w'=>e= .returned (.int .i64 (layP M).1)∧LayGo w w' b d lb pb hb FD FP K (k+1000000) (layP M).2:=by
 obtain⟨i0,hi,hz0,hz1,hz2⟩:=info_parts Tryz.infoIntP
 have H:=Lib.hid h
 have hgeo:=h.ok.geo
 have hfew:=h.ok.disk.few
 have hlt:=h.lt
 obtain⟨nh,hnh,hm⟩:=h.hot
 have HNH:=Lib.hid hnh
 have HMH:=Lib.hid hm
 have HLT:=Lib.hid hlt
 obtain⟨c0,c1,c2,c3,c4,c5,c6,c7⟩:=h.cell
 have hltb:=hlt.1
 clear h hm hlt hnh
 go_enter Tryz.func94,Tryz.ntmps94
 go_wp2_with (at_range;refine wpList_range_T _ rfl _ 130 rfl 3 9 Tryz.keyIntP Tryz.underlying130 hb nh (Value.int .i64) Value.string M.hot rfl ((HMH.out.toT.alloc _).alloc _) ?_;intro w5 cnt hrg hg5 hs5)
 have hsz2:((w.alloc (.cells #[.pointer (some ⟨b,0,none⟩)] 24)).alloc (.cells #[.int .i64 0] 138)).heap.size=w.heap.size+1+1:=by simp
 rw[hsz2] at hs5 hrg
 simp only[hsz2]
 have hb2:Below w.heap.size w ((w.alloc (.cells #[.pointer (some ⟨b,0,none⟩)] 24)).alloc (.cells #[.int .i64 0] 138)):=below_alloc (below_alloc (Below.refl _ _))
 have hg5':=(Touch.of_grown hg5).below (B:=w.heap.size+1+1) (by rw[hsz2];omega) (by simp)
 have hb5:Below w.heap.size w w5:=hb2.trans (hg5'.mono (by omega))
 have k0:w5.cell? ⟨w.heap.size,0,none⟩=some (.pointer (some ⟨b,0,none⟩)):=(hg5'.cell (p:=⟨w.heap.size,0,none⟩) (by show w.heap.size<_;omega)).trans (by go_simp)
 have k1:w5.cell? ⟨w.heap.size+1,0,none⟩=some (.int .i64 0):=(hg5'.cell (p:=⟨w.heap.size+1,0,none⟩) (by show w.heap.size+1<_;omega)).trans (by go_simp)
 have kf:w5.frozen? ⟨w.heap.size+1,0,none⟩=false:=(hg5'.frozen (p:=⟨w.heap.size+1,0,none⟩) (by show w.heap.size+1<_;omega)).trans (by go_simp)
 have HR:=Lib.hid hrg
 have HB5:=Lib.hid hb5
 have HK5:=Lib.hid (And.intro k0 (And.intro k1 kf))
 have HS5:=Lib.hid hs5
 clear hrg hg5 hs5 hb5 hb2 hg5' k0 k1 kf c0 c1 c2 c3 c4 c5 c6 c7 hsz2
 go_frame
 go_loopw [4,5] (fun v4 v5 wr=>CoLoop w w5 hb nh M.hot v4 wr) (fun _ _ wr=>wr.rangeLeft hb (w.heap.size+1+1))
 case atStart=>exact⟨⟨[],fun x=>(M.hot x).isSome,_,List.nodup_nil,fun x=>⟨fun h=>(by cases h),fun⟨h1,h2⟩=>Bool.noConfusion (h1.symm.trans h2)⟩,World.ownsRow_nil _ _ _ _,HR.out,Below.refl _ _,by have:=HS5.out;omega⟩⟩
 case round=>
  obtain⟨⟨l,left,cnt,hn,hm,hrow,hrg,hbw,hsz⟩⟩:=hrel
  have HRG:=Lib.hid hrg
  have HBW:=Lib.hid hbw
  have HN:=Lib.hid hn
  have HM:=Lib.hid hm
  have HROW:=Lib.hid hrow
  have HSZ:=Lib.hid hsz
  have hbd:=CoLoop.bound (most:=M.most) (fun i s hs=>⟨(H.out.ok.hdom i s hs).1,(H.out.ok.hdom i s hs).2.1⟩) hn hm
  clear hrg hbw hn hm hrow hsz HR
  go_wp2_with (at_next;refine wpList_next_T _ rfl _ rfl 3 Tryz.keyIntP hb (w.heap.size+1+1) nh (Value.int .i64) Value.string M.hot left cnt inv_keyI inj_I rfl HRG.out ?done ?more)
  case more=>
   intro x s kl w' cnt' hkey hlx hgx hrg' hlt' hgr hsz hen
   have hb':=below_of_grown HBW.out hgr (Nat.le_refl _) (by have:=HSZ.out;omega)
   have HRG':=Lib.hid hrg'
   have HB':=Lib.hid hb'
   have HME:=Lib.hid (show cnt'<wr.rangeLeft hb (w.heap.size+1+1) by rw[HRG.out.left_eq];exact hlt')
   have HROW':=Lib.hid (ownsRow_touch HROW.out (Touch.of_grown hgr) (fun q hq=>by have:=(HROW.out.lt q hq).1;simp;omega))
   have HSZ':=Lib.hid (show w.heap.size+1+1+1≤w'.heap.size by have:=HSZ.out;omega)
   have hcap:l.length+1≤maxLen:=by unfold maxLen;omega
   clear hrg' hb' hgr hkey hlt' hsz
   go_wp2_with (at_builtin;refine wpList_append_near _ rfl (.tmp 19) (.tmp 21) 67 rfl (w.heap.size+1+1+1) 3 i0 (.int .i64 0) 1 8 Tryz.underlying67 hi hz0 hz1 hz2 rfl (by decide) _ l.length (l.map (Value.int .i64)) rfl (HROW'.out.alloc _) ⟨w'.heap.size,0,none⟩ 1 1 [.int .i64 x] rfl (by decide) rfl (cell_one_new _ _ _) (by intro u hu;simp at hu;subst hu;rfl) hcap (by omega) (by have:=HSZ'.out;simp;omega) ?_;intro g cap w7 hown hgr hat)
   have hb7:Below (w.heap.size+1+1) w5 w7:=(HB'.out.alloc (by have:=HSZ'.out;omega) _).trans ((Touch.of_grown hgr).below (by have:=HSZ'.out;simp;omega) (fun q hq=>by have:=(HROW'.out.lt q (Option.mem_toList.1 hq)).1;omega))
   have hr7:=(HRG'.out.touch (F:=[]) ((Touch.refl _ _).alloc (.cells #[.int .i64 x] 3)) (by simp) (by simp)).touch (Touch.of_grown hgr) (fun hq=>by have:=(HROW'.out.lt _ (Option.mem_toList.1 hq)).1;have:=HLT.out.2.2.1;omega) (fun hq=>by have:=(HROW'.out.lt _ (Option.mem_toList.1 hq)).1;omega)
   have HO7:=Lib.hid hown
   have HB7:=Lib.hid hb7
   have HR7:=Lib.hid hr7
   have HS7:=Lib.hid (show w.heap.size+1+1+1≤w7.heap.size by have:=HSZ'.out;have:=hgr.size;simp at this;omega)
   clear hown hb7 hr7 hgr hat
   go_wp2_with fail
   go_roundw
   case rel=>
    refine⟨⟨l++[x],_,cnt', ?_,fun y=> ?_, ?_,HR7.out,HB7.out,HS7.out⟩⟩
    ·rw[List.nodup_append]
     exact⟨HN.out,by simp,fun a ha b hb=>by simp at hb;subst hb;intro e;subst e;have:=(HM.out a).1 ha;rw[hlx] at this;simp at this⟩
    ·rw[List.mem_append,HM.out]
     by_cases e:y=x
     ·subst e;rw[hgx];simp
     ·simp[e]
    ·have:=HO7.out
     rw[List.map_append,List.length_append]
     exact this
   case measure=>exact HR7.out.left_eq.symm▸HME.out
  case done=>
   intro hall
   have hkeys: ∀x,x∈l↔x∈hotL M:=fun x=>by
    rw[HM.out,hotL_mem]
    constructor
    ·rintro ⟨a,b⟩
     obtain⟨s,hs⟩:=Option.isSome_iff_exists.1 a
     have:=H.out.ok.hdom x s hs
     exact⟨this.1,by omega,a⟩
    ·rintro ⟨a,b,c⟩
     exact⟨c,hall x _ (keyP (by omega) (by omega))⟩
   have hsort:=keysI_of_perm (p:=fun i=>(M.hot i).isSome) (N:=100000) HN.out hkeys
   have HSR:=Lib.hid (sort_row HROW.out (by omega))
   rw[hsort] at HSR
   have hll:l.length=(hotL M).length:=by
    have:=congrArg List.length hsort
    rw[List.length_mergeSort] at this
    exact this
   have HLL:=Lib.hid hll
   clear hkeys hsort hall hll
   go_wp2_with fail
   refine HSR.out.mono ?_
   rintro e w8 ⟨rfl,hrow8,hgr8⟩
   have hb8:Below (w.heap.size+1+1) w5 w8:=HBW.out.trans ((Touch.of_grown hgr8).below (by have:=HSZ.out;omega) (fun q hq=>by have:=(HROW.out.lt q (Option.mem_toList.1 hq)).1;omega))
   rw[HLL.out] at hrow8
   obtain⟨a,c,rfl,hcell⟩:=own_at hrow8
   obtain⟨L,hL⟩: ∃L,L=hotL M:=⟨_,rfl⟩
   have hLm:L.length≤M.most:=by rw[hL];exact hotL_len H.out.ok
   have hcell': ∀(j:Nat) u,(L.map (Value.int .i64))[j]? =some u→ ∃g,a=some ⟨g,0,none⟩∧w.heap.size+1+1+1≤g∧g<w8.heap.size∧w8.cell? ⟨g,j,none⟩=some u:=by rw[hL];exact hcell
   have hlenL:(hotL M).length=L.length:=by rw[hL]
   rw[hlenL]
   have HCELL:=Lib.hid hcell'
   have HL:=Lib.hid hL
   have hb08:Below w.heap.size w w8:=HB5.out.trans (hb8.mono (by omega))
   have HB08:=Lib.hid hb08
   have HP8:=Lib.hid (H.out.below hb08)
   have hs8:w.heap.size+1+1+1≤w8.heap.size:=by have:=HSZ.out;have:=hgr8.size;omega
   have HS8:=Lib.hid hs8
   have kb8:w8.cell? ⟨w.heap.size,0,none⟩=some (.pointer (some ⟨b,0,none⟩)):=(hb8.cell (p:=⟨w.heap.size,0,none⟩) (by show w.heap.size<_;omega)).trans HK5.out.1
   have HON8:=Lib.hid (show ChOn w8 d (w.heap.size+1) FD M.m 0 from⟨HP8.out.disk,(hb8.cell (p:=⟨w.heap.size+1,0,none⟩) (by show w.heap.size+1<_;omega)).trans HK5.out.2.1,(hb8.frozen (p:=⟨w.heap.size+1,0,none⟩) (by show w.heap.size+1<_;omega)).trans HK5.out.2.2,fun hm=>by have:=HLT.out.2.2.2.1 _ hm;omega⟩)
   have HCX:=fun(W1:World) (t:Touch ((w.heap.size+1)::FD) w8 W1)=>Lib.hid (show W1.cell? ⟨w.heap.size,0,none⟩=some (.pointer (some ⟨b,0,none⟩))∧W1.rowIs b 132 8 (pgF d lb pb hb M)∧LogAt W1 lb d M.l∧MapN W1 Tryz.prog 3 hb nh (Value.int .i64) Value.string M.hot∧(∃fr,IsPool W1 pb FP M.room K fr∧Coh fr M.dirty (baseP M)) from by
    have nbx:w.heap.size∉(w.heap.size+1)::FD:=by
     intro hm
     rcases List.mem_cons.1 hm with e|hm
     ·omega
     ·have:=HLT.out.2.2.2.1 _ hm;omega
    have hbn: ∀x,x<w.heap.size→x∉FD→x∉(w.heap.size+1)::FD:=fun x hx hf hm=>by
     rcases List.mem_cons.1 hm with e|hm
     ·omega
     ·exact hf hm
    obtain⟨fr,hp,hc⟩:=HP8.out.pool
    refine⟨(t.cell (p:=⟨w.heap.size,0,none⟩) (by show w.heap.size<_;omega) nbx).trans kb8,rowIs_touch HP8.out.cells t (hbn _ HLT.out.1 H.out.nb.1),HP8.out.log.touch t (hbn _ HLT.out.2.1 H.out.nl.1), ?_,⟨fr,hp.touch t (fun x hx=>hbn x (HLT.out.2.2.2.2 x hx) (fun hf=>H.out.nd x hf hx)),hc⟩⟩
    exact(HMH.out.below hb08).touch t (hbn _ HLT.out.2.2.1 H.out.nh.1))
   clear hrow8 hgr8 hb8 hcell hcell' hL hlenL hb08 kb8 HN HM HROW HBW HSZ HRG HSR HK5
   go_wp2_with fail
   go_loopw [7,27] (fun v7 v27 wr=>WrLoop w8 d (w.heap.size+1) FD M L v27 wr) (fun _ v27 _=>L.length - (intOf v27).toNat)
   case atStart=>exact⟨⟨0,Nat.zero_le _,rfl,HON8.out.st⟩⟩
   case round=>
    obtain⟨⟨j,hj,rfl,hst⟩⟩:=hrel
    obtain⟨F1,hon,ht,hF1⟩:=hst.on
    have HON:=Lib.hid hon
    have HT:=Lib.hid ht
    have HF:=Lib.hid hF1
    have CX:=HCX _ ht
    clear hst hon ht hF1
    by_cases hltj:j<L.length
    ·obtain⟨x,hx⟩: ∃x,L[j]? =some x:=⟨L[j],List.getElem?_eq_getElem hltj⟩
     obtain⟨g,rfl,hg,hgl,hgc⟩:=HCELL.out j (.int .i64 x) (by rw[List.getElem?_map,hx];rfl)
     have hxm:x∈hotL M:=by rw[←HL.out];exact List.mem_of_getElem? hx
     obtain⟨x0,x1,x2⟩:=(hotL_mem x).1 hxm
     obtain⟨s,hs⟩:=Option.isSome_iff_exists.1 x2
     have hd:=H.out.ok.hdom x s hs
     obtain⟨X,rfl⟩: ∃X:Nat,x=X:=⟨x.toNat,by omega⟩
     have gnot:g∉(w.heap.size+1)::FD:=by
      intro hm
      rcases List.mem_cons.1 hm with e|hm
      ·omega
      ·have:=HLT.out.2.2.2.1 _ hm;omega
     have gc:wr.cell? ⟨g,j,none⟩=some (.int .i64 X):=(HT.out.cell (p:=⟨g,j,none⟩) hgl gnot).trans hgc
     have gl:g<wr.heap.size:=Nat.lt_of_lt_of_le hgl HT.out.size
     have kb:=CX.out.1
     have kl:w.heap.size<wr.heap.size:=by have:=HT.out.size;have:=HS8.out;omega
     have b0:wr.cell? ⟨b,0,none⟩=some (.pointer (some ⟨d,0,none⟩)):=World.rowIs.cell CX.out.2.1 (i:=0) (by decide)
     have b2:wr.cell? ⟨b,2,none⟩=some (.int .i64 M.size):=World.rowIs.cell CX.out.2.1 (i:=2) (by decide)
     have b6:wr.cell? ⟨b,6,none⟩=some (.map (some hb)):=World.rowIs.cell CX.out.2.1 (i:=6) (by decide)
     have bl:=World.rowIs.lt CX.out.2.1
     have hlk:=fun q=>((CX.out.2.2.2.1.touch (F:=[]) ((Touch.refl _ _).drewN q) (by simp)).toT).look Tryz.keyIntP Tryz.underlying130 (zeroStrP (wr.drewN q)) (x:=(X:Int)) (keyP (by omega) (by omega))
     rw[hs] at hlk
     simp only[Option.map_some,Option.getD_some] at hlk
     have qj1:(0:Int)≤(j:Int):=by omega
     have qj2:(j:Int)<(L.length:Int):=by omega
     have q1:IntKind.i64.wrap (2+(M.size:Int))=2+(M.size:Int):=IntWalk.i64_in _ (by omega)
     have q2:IntKind.i64.wrap ((X:Int)*8)=(X:Int)*8:=IntWalk.i64_in _ (by omega)
     have q3:IntKind.i64.wrap (2+(M.size:Int)+(X:Int)*8)=((2+M.size+X*8:Nat):Int):=by rw[IntWalk.i64_in _ (by omega)];omega
     have htk:(L.take j).length≤65536:=by rw[List.length_take];omega
     have hok:=layN_ok (hot:=M.hot) (size:=M.size) (L:=L.take j) (x:=(0,M.m)) H.out.ok.disk
     have HPU:=fun q=>Lib.hid (put_page (HON.out.below (below_drewN (Below.refl _ _) q)) hok (by omega) (2+M.size+X*8) s (by omega) hd.2.2)
     have hstep:L.take (j+1)=L.take j++[(X:Int)]:=by rw[List.take_add_one,hx];rfl
     have HSTP:=Lib.hid (And.intro hstep hs)
     clear hgc hstep hok htk
     go_wp2_with fail
     refine wp_region_tail (C:=fun w'=> ∃n,w'=wr.drewN n) 19 (by kernel_rfl) (by kernel_rfl) ⟨1,rfl⟩ ?_
     simp only[List.take_succ_cons,List.take_zero,List.drop_succ_cons,List.drop_zero]
     repeat (first|go_big_quiet_step (fail)|quiet_step (fail))
     refine wpQuiet_nil ?_
     rintro w6 ⟨nq,rfl⟩
     clear kb b0 b2 b6 q1 q2 q3 hlk qj1 qj2 gc gl bl
     go_wp2_with fail
     refine(HPU nq).out.mono ?_
     rintro e w7 ⟨rfl,hst7⟩
     have HST:=Lib.hid (show ApSt w8 d (w.heap.size+1) FD w7 (layN (0,M.m) M.hot M.size (L.take (j+1))) from by
      rw[HSTP.out.1,layN_snoc,HSTP.out.2,Option.getD_some,Int.toNat_natCast]
      exact ApSt.trans (HT.out.drewN nq) HF.out hst7)
     clear hst7 HPU
     go_wp2_with fail
     go_roundw
     case rel=>exact⟨⟨j+1,by omega,by go_num,HST.out⟩⟩
     case measure=>simp[intOf];omega
    ·obtain rfl:L.length=j:=by omega
     have e1:L.take L.length=hotL M:=by rw[List.take_length,HL.out]
     rw[e1] at HON
     have hle:=hotL_len H.out.ok
     have hok1:=layN_ok (hot:=M.hot) (size:=M.size) (L:=hotL M) (x:=(0,M.m)) H.out.ok.disk
     have hX:=layX_eq M
     obtain⟨y1,hy1⟩: ∃y1,y1=layN (0,M.m) M.hot M.size (hotL M):=⟨_,rfl⟩
     rw[←hy1] at HON hok1 hX
     obtain⟨g,hgg⟩: ∃g,g=(M.gen+1) % 18446744073709551616:=⟨_,rfl⟩
     rw[←hgg] at hX
     have gb:0≤g∧g≤18446744073709551615:=by omega
     have hok2:=hok1.stepF
     have hok3:=hok2.stepW (g % 2) (mkStr g (superT M.l.next M.size))
     have HOK:=Lib.hid (And.intro hok1 (And.intro hok2 hok3))
     have HX:=Lib.hid hX
     have HGG:=Lib.hid hgg
     have HCE:=Lib.hid hle
     clear e1 hy1 hok1 hok2 hok3 hX hgg hltj
     have kb:=CX.out.1
     have kl:w.heap.size<wr.heap.size:=by have:=HT.out.size;have:=HS8.out;omega
     have b0:wr.cell? ⟨b,0,none⟩=some (.pointer (some ⟨d,0,none⟩)):=World.rowIs.cell CX.out.2.1 (i:=0) (by decide)
     have b1:wr.cell? ⟨b,1,none⟩=some (.pointer (some ⟨lb,0,none⟩)):=World.rowIs.cell CX.out.2.1 (i:=1) (by decide)
     have b2:wr.cell? ⟨b,2,none⟩=some (.int .i64 M.size):=World.rowIs.cell CX.out.2.1 (i:=2) (by decide)
     have b3:wr.cell? ⟨b,3,none⟩=some (.int .u64 M.gen):=World.rowIs.cell CX.out.2.1 (i:=3) (by decide)
     have b6:wr.cell? ⟨b,6,none⟩=some (.map (some hb)):=World.rowIs.cell CX.out.2.1 (i:=6) (by decide)
     have b7:wr.cell? ⟨b,7,none⟩=some (.bool M.dead):=World.rowIs.cell CX.out.2.1 (i:=7) (by decide)
     have bl:=World.rowIs.lt CX.out.2.1
     have ce:=HON.out.err
     have cl:=cell_lt HON.out.err
     have HFL:=Lib.hid (pthen_flush HON.out HOK.out.1 (by have:=HCE.out;omega))
     go_wp2_with fail
     refine HFL.out.mono ?_
     rintro e w9 ⟨rfl,hst⟩
     obtain⟨F1,hon,t,f⟩:=hst.on
     have HON:=Lib.hid hon
     have HF':=Lib.hid (show∀x∈F1,x∈FD∨w8.heap.size≤x from fun x hx=>(f x hx).elim (HF.out x) (fun h=> .inr (Nat.le_trans HT.out.size h)))
     have HT':=Lib.hid (HT.out.trans t (fun x hx=>(List.mem_cons.1 hx).elim (fun e=> .inl (by simp[e])) (fun hm=>(HF.out x hm).imp (fun h=>by simp[h]) id)))
     have HF:=HF'
     have HT:=HT'
     have CX:=HCX _ HT.out
     clear hst hon t f HF' HT' kb kl b0 b1 b2 b3 b6 b7 bl ce cl
     have HLF:=Lib.hid (lay_fn (pp:=w.heap.size) (gen:=M.gen) (size:=M.size) HON.out.disk CX.out.2.2.1 HOK.out.2.1 (by have:=HCE.out;omega) H.out.ok.gen0 H.out.ok.gen1 H.out.ok.next0 (by omega) CX.out.1 (World.rowIs.cell CX.out.2.1 (i:=0) (by decide)) (World.rowIs.cell CX.out.2.1 (i:=1) (by decide)) (World.rowIs.cell CX.out.2.1 (i:=2) (by decide)) (World.rowIs.cell CX.out.2.1 (i:=3) (by decide)))
     rw[←HGG.out] at HLF
     have HTH:=Lib.hid (then_any HON.out 167 #[] #[.pointer (some ⟨w.heap.size,0,none⟩)] (wrM (stepF (y1.1,y1.2)).2 (g % 2) (mkStr g (superT M.l.next M.size))) (by kernel_rfl) HLF.out)
     have kb:=CX.out.1
     have kl:w.heap.size<w9.heap.size:=by have:=HT.out.size;have:=HS8.out;omega
     have b0:w9.cell? ⟨b,0,none⟩=some (.pointer (some ⟨d,0,none⟩)):=World.rowIs.cell CX.out.2.1 (i:=0) (by decide)
     have b1:w9.cell? ⟨b,1,none⟩=some (.pointer (some ⟨lb,0,none⟩)):=World.rowIs.cell CX.out.2.1 (i:=1) (by decide)
     have b2:w9.cell? ⟨b,2,none⟩=some (.int .i64 M.size):=World.rowIs.cell CX.out.2.1 (i:=2) (by decide)
     have b3:w9.cell? ⟨b,3,none⟩=some (.int .u64 M.gen):=World.rowIs.cell CX.out.2.1 (i:=3) (by decide)
     have b6:w9.cell? ⟨b,6,none⟩=some (.map (some hb)):=World.rowIs.cell CX.out.2.1 (i:=6) (by decide)
     have b7:w9.cell? ⟨b,7,none⟩=some (.bool M.dead):=World.rowIs.cell CX.out.2.1 (i:=7) (by decide)
     have bl:=World.rowIs.lt CX.out.2.1
     have ce:=HON.out.err
     have cl:=cell_lt HON.out.err
     go_wp2_with fail
     refine HTH.out.mono ?_
     rintro e w10 ⟨rfl,hst0⟩
     have hst:ApSt w9 d (w.heap.size+1) F1 w10 (stepW (stepF y1) (g % 2) (mkStr g (superT M.l.next M.size))):=hst0
     clear hst0 HTH HLF HFL
     obtain⟨F1,hon,t,f⟩:=hst.on
     have HON:=Lib.hid hon
     have HF':=Lib.hid (show∀x∈F1,x∈FD∨w8.heap.size≤x from fun x hx=>(f x hx).elim (HF.out x) (fun h=> .inr (Nat.le_trans HT.out.size h)))
     have HT':=Lib.hid (HT.out.trans t (fun x hx=>(List.mem_cons.1 hx).elim (fun e=> .inl (by simp[e])) (fun hm=>(HF.out x hm).imp (fun h=>by simp[h]) id)))
     have HF:=HF'
     have HT:=HT'
     have CX:=HCX _ HT.out
     clear hst hon t f HF' HT' kb kl b0 b1 b2 b3 b6 b7 bl ce cl
     have HFL:=Lib.hid (pthen_flush HON.out HOK.out.2.2 (by have:=HCE.out;omega))
     have kb:=CX.out.1
     have kl:w.heap.size<w10.heap.size:=by have:=HT.out.size;have:=HS8.out;omega
     have b0:w10.cell? ⟨b,0,none⟩=some (.pointer (some ⟨d,0,none⟩)):=World.rowIs.cell CX.out.2.1 (i:=0) (by decide)
     have b1:w10.cell? ⟨b,1,none⟩=some (.pointer (some ⟨lb,0,none⟩)):=World.rowIs.cell CX.out.2.1 (i:=1) (by decide)
     have b2:w10.cell? ⟨b,2,none⟩=some (.int .i64 M.size):=World.rowIs.cell CX.out.2.1 (i:=2) (by decide)
     have b3:w10.cell? ⟨b,3,none⟩=some (.int .u64 M.gen):=World.rowIs.cell CX.out.2.1 (i:=3) (by decide)
     have b6:w10.cell? ⟨b,6,none⟩=some (.map (some hb)):=World.rowIs.cell CX.out.2.1 (i:=6) (by decide)
     have b7:w10.cell? ⟨b,7,none⟩=some (.bool M.dead):=World.rowIs.cell CX.out.2.1 (i:=7) (by decide)
     have bl:=World.rowIs.lt CX.out.2.1
     have ce:=HON.out.err
     have cl:=cell_lt HON.out.err
     go_wp2_with fail
     refine HFL.out.mono ?_
     rintro e w11 ⟨rfl,hst0⟩
     obtain⟨X,hXE⟩: ∃X,X=layX M:=⟨_,rfl⟩
     have hst:ApSt w10 d (w.heap.size+1) F1 w11 X:=by rw[hXE,HX.out];exact hst0
     have hXok:DOk X.2 (k+8*(hotL M).length+1):=by rw[hXE];exact layX_ok H.out.ok
     have hXlen:X.2.sure.length=M.m.sure.length:=by rw[hXE];exact layX_len M
     have HXE:=Lib.hid hXE
     have HXO:=Lib.hid (And.intro hXok hXlen)
     clear hXE hXok hXlen
     clear hst0 HFL
     obtain⟨F1,hon,t,f⟩:=hst.on
     have HON:=Lib.hid hon
     have HF':=Lib.hid (show∀x∈F1,x∈FD∨w8.heap.size≤x from fun x hx=>(f x hx).elim (HF.out x) (fun h=> .inr (Nat.le_trans HT.out.size h)))
     have HT':=Lib.hid (HT.out.trans t (fun x hx=>(List.mem_cons.1 hx).elim (fun e=> .inl (by simp[e])) (fun hm=>(HF.out x hm).imp (fun h=>by simp[h]) id)))
     have HF:=HF'
     have HT:=HT'
     have CX:=HCX _ HT.out
     clear hst hon t f HF' HT' kb kl b0 b1 b2 b3 b6 b7 bl ce cl
     have kb:=CX.out.1
     have kl:w.heap.size<w11.heap.size:=by have:=HT.out.size;have:=HS8.out;omega
     have b0:w11.cell? ⟨b,0,none⟩=some (.pointer (some ⟨d,0,none⟩)):=World.rowIs.cell CX.out.2.1 (i:=0) (by decide)
     have b1:w11.cell? ⟨b,1,none⟩=some (.pointer (some ⟨lb,0,none⟩)):=World.rowIs.cell CX.out.2.1 (i:=1) (by decide)
     have b2:w11.cell? ⟨b,2,none⟩=some (.int .i64 M.size):=World.rowIs.cell CX.out.2.1 (i:=2) (by decide)
     have b3:w11.cell? ⟨b,3,none⟩=some (.int .u64 M.gen):=World.rowIs.cell CX.out.2.1 (i:=3) (by decide)
     have b6:w11.cell? ⟨b,6,none⟩=some (.map (some hb)):=World.rowIs.cell CX.out.2.1 (i:=6) (by decide)
     have b7:w11.cell? ⟨b,7,none⟩=some (.bool M.dead):=World.rowIs.cell CX.out.2.1 (i:=7) (by decide)
     have bl:=World.rowIs.lt CX.out.2.1
     have ce:=HON.out.err
     have cl:=cell_lt HON.out.err
     have fz:=fun i=>World.rowIs.frozen CX.out.2.1 i
     by_cases hz:X.1=0
     ·have qg:IntKind.u64.wrap (M.gen+1)=g:=by rw[IntKind.wrap_u64,HGG.out]
      have HZ:=Lib.hid hz
      rw[hz] at ce
      have t12:Touch [b] w11 (w11.setCell ⟨b,3,none⟩ (.int .u64 g)):=(Touch.refl _ _).setCell (.inl (by simp)) _
      obtain⟨w13,hrun,hm13,ht13⟩:=clear_N (CX.out.2.2.2.1.touch t12 (by simp;exact fun e=>H.out.nb.2.2.2 e.symm)) Tryz.underlying130
      have r12:=pgF_gen (M2:= { M with gen:=g }) CX.out.2.1 rfl rfl rfl
      have r13:=rowIs_touch r12 ht13 (by simp;exact H.out.nb.2.2.2)
      have l13:LogAt w13 lb d M.l:=(CX.out.2.2.1.touch t12 (by simp;exact fun e=>H.out.nb.2.2.1 e.symm)).touch ht13 (by simp;exact H.out.nl.2.2)
      have kb13:w13.cell? ⟨w.heap.size,0,none⟩=some (.pointer (some ⟨b,0,none⟩)):=(ht13.cell (p:=⟨w.heap.size,0,none⟩) (by simp;exact kl) (by simp;have:=HLT.out.2.2.1;omega)).trans ((t12.cell (p:=⟨w.heap.size,0,none⟩) kl (by simp;omega)).trans kb)
      have b13:w13.cell? ⟨b,1,none⟩=some (.pointer (some ⟨lb,0,none⟩)):=World.rowIs.cell r13 (i:=1) (by decide)
      have T13:=Lib.hid ((t12.mono (G:=[b,lb,hb]) (by simp)).trans (ht13.mono (G:=[b,lb,hb]) (by simp)) (fun x hx=> .inl hx))
      have R13:=Lib.hid r13
      have L13:=Lib.hid l13
      have M13:=Lib.hid hm13
      clear t12 ht13 r12 r13 hm13 hz
      cases hdd:M.l.dead
      ·have HRS:=Lib.hid (restart_any l13 hdd)
       have hdy:=layP_yes (M:=M) (by rw[←HXE.out];exact HZ.out)
       rw[←HXE.out] at hdy
       rw[hdd,if_neg (by simp),if_neg (by simp), ←HGG.out] at hdy
       have HY:=Lib.hid hdy
       clear l13 hdy hdd
       go_wp2_with fail
       refine HRS.out.mono ?_
       rintro e w14 ⟨rfl,hl14,ht14⟩
       go_wp2_with fail
       go_ret
       rw[HY.out]
       refine⟨rfl,H.out.laid HB08.out HT.out (by omega) HON.out.disk HF.out (T13.out.trans (ht14.mono (G:=[b,lb,hb]) (by simp)) (fun x hx=> .inl hx)) ?_ hl14 ⟨0,(cntI_none 100000).symm,M13.out.touch ht14 (by simp;exact fun e=>H.out.nl.2.2 e.symm)⟩ CX.out.2.2.2.2 ?_ ?_ (by with_reducible rfl) (by with_reducible rfl) (by with_reducible rfl)⟩
       ·exact World.rowIs.congr (rowIs_touch R13.out ht14 (by simp;exact H.out.nb.2.2.1)) (fun i hi=>pgF_congr (by with_reducible rfl) (by with_reducible rfl) (by with_reducible rfl) (by with_reducible rfl) i)
       ·intro i hi
        have:=lay_base H.out.ok i hi
        rw[HY.out] at this
        exact this
       ·have hok:=H.out.ok
        exact⟨HXO.out.1.mono (by have:=HCE.out;omega),by show 2+M.size+M.most*8≤X.2.sure.length;rw[HXO.out.2];exact hok.geo,hok.size1,hok.most1,hok.room1,hok.room2,hok.frm,hok.lsize,Nat.zero_le _,hok.next0,hok.next1,gb.1,gb.2,hok.dom,fun i s hs=>by cases hs⟩
      ·have HRS:=Lib.hid (restart_dead l13 hdd)
       have hdy:=layP_yes (M:=M) (by rw[←HXE.out];exact HZ.out)
       rw[←HXE.out] at hdy
       rw[hdd,if_pos rfl,if_pos rfl, ←HGG.out] at hdy
       have HY:=Lib.hid hdy
       clear l13 hdy hdd
       go_wp2_with fail
       refine HRS.out.mono ?_
       rintro e w14 ⟨rfl,rfl⟩
       go_wp2_with fail
       go_ret
       rw[HY.out]
       refine⟨rfl,H.out.laid HB08.out HT.out (by omega) HON.out.disk HF.out T13.out ?_ L13.out ⟨0,(cntI_none 100000).symm,M13.out⟩ CX.out.2.2.2.2 ?_ ?_ (by with_reducible rfl) (by with_reducible rfl) (by with_reducible rfl)⟩
       ·exact World.rowIs.congr R13.out (fun i hi=>pgF_congr (by with_reducible rfl) (by with_reducible rfl) (by with_reducible rfl) (by with_reducible rfl) i)
       ·intro i hi
        have:=lay_base H.out.ok i hi
        rw[HY.out] at this
        exact this
       ·have hok:=H.out.ok
        exact⟨HXO.out.1.mono (by have:=HCE.out;omega),by show 2+M.size+M.most*8≤X.2.sure.length;rw[HXO.out.2];exact hok.geo,hok.size1,hok.most1,hok.room1,hok.room2,hok.frm,hok.lsize,hok.lat,hok.next0,hok.next1,gb.1,gb.2,hok.dom,fun i s hs=>by cases hs⟩
     ·have e9:(X.1 != 0)=true:=by simpa using hz
      have hdy:=layP_no (M:=M) (by rw[←HXE.out];exact hz)
      rw[←HXE.out] at hdy
      have HY:=Lib.hid hdy
      clear hz hdy
      go_wp2_with fail
      go_ret
      rw[HY.out]
      have ht2:Touch [b,lb,hb] w11 (w11.setCell ⟨b,7,none⟩ (.bool true)):=(Touch.refl _ _).setCell (.inl (by simp)) _
      refine⟨rfl,H.out.laid HB08.out HT.out (by omega) HON.out.disk HF.out ht2 ?_ ?_ ⟨nh,HNH.out, ?_⟩ CX.out.2.2.2.2 ?_ ?_ (by with_reducible rfl) (by with_reducible rfl) (by with_reducible rfl)⟩
      ·exact pgF_dead (M2:= { M with m:=X.2,dead:=true }) CX.out.2.1 rfl rfl rfl
      ·exact CX.out.2.2.1.touch (F:=[b]) ((Touch.refl _ _).setCell (.inl (by simp)) _) (by simp;exact fun e=>H.out.nb.2.2.1 e.symm)
      ·exact CX.out.2.2.2.1.touch (F:=[b]) ((Touch.refl _ _).setCell (.inl (by simp)) _) (by simp;exact fun e=>H.out.nb.2.2.2 e.symm)
      ·intro i hi
       have:=lay_base H.out.ok i hi
       rw[HY.out] at this
       exact this
      ·have hok:=H.out.ok
       exact⟨HXO.out.1.mono (by have:=HCE.out;omega),by show 2+M.size+M.most*8≤X.2.sure.length;rw[HXO.out.2];exact hok.geo,hok.size1,hok.most1,hok.room1,hok.room2,hok.frm,hok.lsize,hok.lat,hok.next0,hok.next1,hok.gen0,hok.gen1,hok.dom,hok.hdom⟩
end
end Go.Proofs.YtjgkegkinnlcoaaGreatDoor
namespace Go.Proofs.YtjgkegkinnlcoaaGreatDoor
open Go.RowKit Go.Maps Go.Joins
theorem wrN_other {base:Nat} {pages:List ByteArray} {m:DM} {j:Nat}: ∀t,(j<base∨base+t≤j)→secM (wrN base pages m t).2 j=secM m j
 |0,_=>rfl
 |t+1,h=>by
  unfold wrN
  rw[stepW_other _ (by omega),wrN_other t (by omega)]
theorem wrN_len {base:Nat} {pages:List ByteArray} {m:DM}: ∀t,(wrN base pages m t).2.sure.length=m.sure.length
 |0=>rfl
 |t+1=>by
  unfold wrN
  rw[stepW_len,wrN_len t]
theorem apX_other {l:LM} {m:DM} {k j:Nat} (h:DOk m k) (pages:List ByteArray) (hj:l.frm+l.at_+1+9*pages.length≤j):secM (apX l m pages).2 j=secM m j:=by
 have h1:=h.wrN (l.frm+l.at_+1) pages (9*pages.length)
 unfold apX
 rw[stepF_sec ((h1.stepF).stepW _ _).wait,stepW_other _ (by omega),stepF_sec h1.wait,wrN_other _ (by omega)]
theorem apX_len {l:LM} {m:DM} (pages:List ByteArray):(apX l m pages).2.sure.length=m.sure.length:=by
 unfold apX
 rw[stepF_len,stepW_len,stepF_len,wrN_len]
end Go.Proofs.YtjgkegkinnlcoaaGreatDoor
namespace Go.Proofs.YtjgkegkinnlcoaaGreatDoor
open Go.RowKit Go.Joins
theorem UpM.wrN {m:DM} {N:Nat} (h:UpM m N) (base:Nat) (pages:List ByteArray) (hp: ∀p∈pages,p.size=512): ∀t,t≤9*pages.length→base+t≤N→(wrN base pages m t).1=0∧UpM (wrN base pages m t).2 N
 |0,_,_=>⟨rfl,h⟩
 |t+1,ht,hN=>by
  have ih:=UpM.wrN h base pages hp t (by omega) (by omega)
  unfold Proofs.YtjgkegkinnlcoaaGreatDoor.wrN
  refine UpM.stepW ih.1 ih.2 (base+t) _ (by omega) (secP_size _ ?_ _ (Nat.mod_lt _ (by decide)))
  have hlt:t / 9<pages.length:=by omega
  have:pages.getD (t / 9) ⟨#[]⟩=pages[t / 9]:=by simp[List.getD,hlt]
  rw[this,hp _ (List.getElem_mem hlt)];omega
theorem up_apX {m:DM} {N:Nat} {l:LM} (h:UpM m N) (pages:List ByteArray) (hp: ∀p∈pages,p.size=512) (hl:l.frm+l.at_+1+9*pages.length≤N):(apX l m pages).1=0∧UpM (apX l m pages).2 N:=by
 unfold Proofs.YtjgkegkinnlcoaaGreatDoor.apX
 have h1:=h.wrN (l.frm+l.at_+1) pages hp _ (Nat.le_refl _) (by omega)
 have h2:=h1.2.stepF h1.1
 have h3:=h2.2.stepW h2.1 (l.frm+l.at_) (mkStr l.next (textM pages.length)) (by omega) (mkStr_size _ _ (by rw[textM_size];omega))
 exact h3.2.stepF h3.1
theorem up_apM {m:DM} {N:Nat} {l:LM} (h:UpM m N) (pages:List ByteArray) (hp: ∀p∈pages,p.size=512) (hl:l.frm+l.at_+1+9*pages.length≤N):
  apM l m pages=(0, { l with at_:=l.at_+1+9*pages.length,next:=(l.next+1) % 18446744073709551616 },(apX l m pages).2):=by
 unfold Proofs.YtjgkegkinnlcoaaGreatDoor.apM;rw[if_neg (by rw[(up_apX h pages hp hl).1];simp)]
theorem ok_apX {l:LM} {m:DM} {k:Nat} (h:DOk m k) (pages:List ByteArray):DOk (apX l m pages).2 (k+9*pages.length+1):=
 (((h.wrN _ pages _).stepF).stepW _ _).stepF
end Go.Proofs.YtjgkegkinnlcoaaGreatDoor
namespace Go.Proofs.YtjgkegkinnlcoaaGreatDoor
open Go.RowKit Go.Maps Go.Joins
section
variable {w w' w1 w2:World} {b d lb pb hb K J k:Nat} {FD FP F1:List Nat} {M M':PM}
def apS (M:PM) (pages:List ByteArray):Int × PM:=((apR M.l M.m pages pages.length).1, { M with l:=(apR M.l M.m pages pages.length).2.1,m:=(apR M.l M.m pages pages.length).2.2 })
theorem apE_fits {l:LM} {n:Nat} (h:apE l n=0):l.at_+1+9*n≤l.size:=by
 unfold apE at h
 split at h
 ·cases h
 ·split at h
  ·cases h
  ·split at h
   ·cases h
   ·omega
theorem apM_cases (l:LM) (m:DM) (pages:List ByteArray):(apM l m pages).2.2=(apX l m pages).2∧(apM l m pages).2.1.frm=l.frm∧(apM l m pages).2.1.size=l.size∧((apM l m pages).2.1.at_=l.at_∨(apM l m pages).2.1.at_=l.at_+1+9*pages.length)∧((apM l m pages).2.1.next=l.next∨(apM l m pages).2.1.next=(l.next+1) % 18446744073709551616):=by
 unfold apM
 split
 ·exact⟨rfl,rfl,rfl, .inl rfl, .inl rfl⟩
 ·exact⟨rfl,rfl,rfl, .inr rfl, .inr rfl⟩
theorem apR_facts (h:PgOk M k) (pages:List ByteArray):
  DOk (apR M.l M.m pages pages.length).2.2 (k+9*pages.length+1)∧(apR M.l M.m pages pages.length).2.2.sure.length=M.m.sure.length∧(∀j,2+M.size≤j→secM (apR M.l M.m pages pages.length).2.2 j=secM M.m j)∧
   (apR M.l M.m pages pages.length).2.1.frm=2∧(apR M.l M.m pages pages.length).2.1.size=M.size∧(apR M.l M.m pages pages.length).2.1.at_≤M.size∧0≤(apR M.l M.m pages pages.length).2.1.next∧(apR M.l M.m pages pages.length).2.1.next≤18446744073709551615:=by
 have n0:=h.next0
 have n1:=h.next1
 have hl:=h.lat
 have hs:=h.lsize
 have hf:=h.frm
 by_cases he:apE M.l pages.length=0
 ·have hfit:=apE_fits he
  rw[apR_yes he]
  obtain⟨e1,e2,e3,e4,e5⟩:=apM_cases M.l M.m pages
  rw[e1,e2,e3]
  refine⟨ok_apX h.disk pages,apX_len pages,fun j hj=>apX_other h.disk pages (by omega),hf,hs, ?_, ?_, ?_⟩
  ·rcases e4 with e|e<;>rw[e]<;>omega
  ·rcases e5 with e|e<;>rw[e]<;>omega
  ·rcases e5 with e|e<;>rw[e]<;>omega
 ·rw[apR_no rfl he]
  exact⟨h.disk.mono (by omega),rfl,fun j _=>rfl,hf,hs,hl,n0,n1⟩
theorem apS_base (h:PgOk M k) (pages:List ByteArray) (i:Int):baseP (apS M pages).2 i=baseP M i:=by
 unfold baseP
 show(M.hot i).getD (pgOf (apR M.l M.m pages pages.length).2.2 (2+M.size+i.toNat*8))=(M.hot i).getD (pgOf M.m (2+M.size+i.toNat*8))
 rw[pgOf_congr (fun k hk=>(apR_facts h pages).2.2.1 _ (by omega))]
theorem append_step (h:PgIn w b d lb pb hb FD FP K k M) (hk:k≤100000) {a:Option Addr} {c:Nat} {pages:List ByteArray} (hne:0<pages.length) (hn:pages.length≤1000000) (hpg:PgAt w a pages (lb::FD)) (hall: ∀p∈pages,p.size=512):
  Calls Tryz.prog 93 #[.pointer (some ⟨lb,0,none⟩), .slice a pages.length c] w fun e w'=>e= .returned (.int .i64 (apS M pages).1)∧
   ∃FD',PgIn w' b d lb pb hb FD' FP K (k+9*pages.length+1) (apS M pages).2∧Touch (lb::FD) w w'∧ ∀x∈FD',x∈FD∨w.heap.size≤x:=by
 have hlt:=h.lt
 have hge:=h.ok.geo
 have hfe:=h.ok.disk.few
 refine(append_right h.log h.disk h.ok.disk hk h.nl.1 (by rw[h.ok.frm,h.ok.lsize];omega) (by rw[h.ok.lsize];exact h.ok.lat) h.ok.next0 h.ok.next1 hne (by omega) hpg hall).mono ?_
 rintro e w' ⟨rfl,hl,⟨F',hd,hF,hln⟩,ht⟩
 obtain⟨a1,a2,a3,a4,a5,a6,a7,a8⟩:=apR_facts h.ok pages
 obtain⟨fr,hp,hc⟩:=h.pool
 obtain⟨n,hnn,hm⟩:=h.hot
 have out: ∀x,x<w.heap.size→x∉FD→x∉F':=fun x hx hf hm=>(hF x hm).elim hf (by omega)
 have hnot: ∀x,x≠lb→x∉FD→x∉lb::FD:=fun x h1 h2 hm=>(List.mem_cons.1 hm).elim h1 h2
 refine⟨rfl,F',⟨?_,hd,hl,⟨fr,hp.touch ht (fun x hx=>hnot x (fun e=>h.nl.2.1 (e▸hx)) (fun hf=>h.nd x hf hx)),hc.rebase hp (fun i _=>apS_base h.ok pages i)⟩,⟨n,hnn,hm.touch ht (hnot hb (fun e=>h.nl.2.2 e.symm) h.nh.1)⟩, ?_, ?_, ?_, ?_, ?_⟩,ht,hF⟩
 ·exact World.rowIs.congr (rowIs_touch h.cells ht (hnot b h.nb.2.2.1 h.nb.1)) (fun i hi=>pgF_congr rfl rfl rfl rfl i)
 ·exact⟨a1,by show 2+M.size+M.most*8≤(apR M.l M.m pages pages.length).2.2.sure.length;rw[a2];exact hge,h.ok.size1,h.ok.most1,h.ok.room1,h.ok.room2,a4,a5,a6,a7,a8,h.ok.gen0,h.ok.gen1,h.ok.dom,h.ok.hdom⟩
 ·exact⟨out b hlt.1 h.nb.1,h.nb.2.1,h.nb.2.2⟩
 ·exact⟨hln,h.nl.2.1,h.nl.2.2⟩
 ·exact⟨out hb hlt.2.2.1 h.nh.1,h.nh.2⟩
 ·intro x hx hx'
  have:=hlt.2.2.2.2 x hx'
  exact(hF x hx).elim (fun hf=>h.nd x hf hx') (by omega)
end
end Go.Proofs.YtjgkegkinnlcoaaGreatDoor
namespace Go.Proofs.YtjgkegkinnlcoaaGreatDoor
open Go.RowKit Go.Maps Go.Joins
def dText (M:PM) (no:Int):ByteArray:=(M.dirty no).getD ⟨#[]⟩
theorem dirtyPages_eq (M:PM):dirtyPages M=(dirtyL M).map (dText M):=rfl
theorem dirtyL_len (M:PM):(dirtyL M).length=cntD M:=keysI_length _ _
theorem dirtyL_mem (M:PM) (x:Int):x∈dirtyL M↔0≤x∧x<100000∧(M.dirty x).isSome=true:=keysI_mem (fun i=>(M.dirty i).isSome) 100000 x
structure GaLoop (w2:World) (b d lb pb hb:Nat) (FD FP:List Nat) (K k:Nat) (M:PM) (L:List Int) (v4 v:Value) (wr:World):Prop where
 ex: ∃(j:Nat) (F1:List Nat),j≤L.length∧v= .int .i64 j∧PgIn wr b d lb pb hb FD F1 (K+j) k M∧Touch FP w2 wr∧(∀x∈F1,x∈FP∨w2.heap.size≤x)∧wr.ownsRow w2.heap.size 9 1 v4 j (((L.take j).map (dText M)).map Value.string)∧ ∀q,v4.ownBlock=some q→q∉F1
theorem PgIn.died {w:World} {b d lb pb hb K k:Nat} {FD FP:List Nat} {M:PM} (h:PgIn w b d lb pb hb FD FP K k M) (v:Bool):PgIn (w.setCell ⟨b,7,none⟩ (.bool v)) b d lb pb hb FD FP K k { M with dead:=v }:=by
 have t:Touch [b] w (w.setCell ⟨b,7,none⟩ (.bool v)):=(Touch.refl _ _).setCell (.inl (by simp)) _
 obtain⟨fr,hp,hc⟩:=h.pool
 obtain⟨n,hn,hm⟩:=h.hot
 refine⟨pgF_dead (M2:= { M with dead:=v }) h.cells rfl rfl rfl,h.disk.touch t (fun x hx hm=>by simp at hm;subst hm;exact h.nb.1 hx),h.log.touch t (by simp;exact fun e=>h.nb.2.2.1 e.symm),⟨fr,hp.touch t (fun x hx hm=>by simp at hm;subst hm;exact h.nb.2.1 hx),hc⟩,⟨n,hn,hm.touch t (by simp;exact fun e=>h.nb.2.2.2 e.symm)⟩, ?_,h.nb,h.nl,h.nh,h.nd⟩
 exact⟨h.ok.disk,h.ok.geo,h.ok.size1,h.ok.most1,h.ok.room1,h.ok.room2,h.ok.frm,h.ok.lsize,h.ok.lat,h.ok.next0,h.ok.next1,h.ok.gen0,h.ok.gen1,h.ok.dom,h.ok.hdom⟩
theorem commitP_eq {M:PM} (h1:M.dead=false) (h2: ¬cntD M=0) (h3: ¬64<cntD M) {A:Int × PM} (hA:A=apS M (dirtyPages M)):commitP M=endP (if A.1=9∧1+9*cntD M≤M.size then(if (layP A.2).1=0 then apP (layP A.2).2 else layP A.2) else A):=by
 unfold commitP
 rw[if_neg (by rw[h1];simp),if_neg h2,if_neg h3]
 show endP (if (apP M).1=9∧1+9*cntD M≤M.size then _ else apP M)=_
 have e:apP M=A:=by rw[hA];rfl
 rw[e]
theorem layP_wait {M:PM} (h:(layP M).1=0):(layP M).2.m.wait=[]:=by
 by_cases hz:(layX M).1=0
 ·rw[(layP_m M).1,layX_eq]
  rw[layX_eq] at hz
  exact stepF_wait hz
 ·rw[layP_no hz] at h
  simp only at h
  exact absurd h hz
theorem endP_no {x:Int × PM} (h:x.1≠0):endP x=(x.1, { x.2 with dead:=x.2.dead||decide (x.1≠9) }):=by unfold endP;rw[if_neg h]
theorem endP_yes {x:Int × PM} (h:x.1=0):endP x=(0,keepP x.2):=by unfold endP;rw[if_pos h]
def hotJ (M:PM) (hot:Int→Option ByteArray) (L:List Int) (j:Nat):Int→Option ByteArray:=fun i=>if i∈L.take j then some (dText M i) else hot i
structure HoLoop (w4:World) (hb:Nat) (M:PM) (hot:Int→Option ByteArray) (L:List Int) (v:Value) (wr:World):Prop where
 ex: ∃j n:Nat,j≤L.length∧v= .int .i64 j∧n=cntI (fun i=>(hotJ M hot L j i).isSome) 100000∧MapN wr Tryz.prog 3 hb n (Value.int .i64) Value.string (hotJ M hot L j)∧Touch [hb] w4 wr
theorem hotJ_succ {M:PM} {hot:Int→Option ByteArray} {L:List Int} {j:Nat} {x:Int} (hx:L[j]? =some x):updT (hotJ M hot L j) x (dText M x)=hotJ M hot L (j+1):=by
 funext i
 unfold updT hotJ
 rw[List.take_add_one,hx]
 by_cases e:i=x
 ·subst e;simp
 ·simp[e]
section
variable {w w' w1 w2:World} {b d lb pb hb K J k:Nat} {FD FP F1:List Nat} {M M':PM}
theorem PgGo.of_lay (h:LayGo w w' b d lb pb hb FD FP K k M) (hp: ∀x∈FP,x<w.heap.size):PgGo w w' b d lb pb hb FD FP K k M:=by
 obtain⟨F',h1,h2,h3⟩:=h
 refine⟨F',FP,h1,h2.mono (fun x hx=> .inl ?_),h3,fun x hx=> .inl hx⟩
 simp only[List.mem_cons] at hx
 rcases hx with rfl|rfl|rfl|hx<;>simp[*]
theorem hotJ_all {E:PM} (hd:E.dirty=M.dirty) (hdom: ∀i s,E.dirty i=some s→0≤i∧i<100000) {L:List Int} (hL:L=dirtyL M):hotJ M E.hot L L.length=(keepP E).hot:=by
 have hmem: ∀x,x∈L↔0≤x∧x<100000∧(M.dirty x).isSome=true:=fun x=>by rw[hL];exact dirtyL_mem M x
 clear hL
 funext i
 unfold hotJ keepP
 rw[List.take_length]
 simp only[hmem,hd]
 rw[hd] at hdom
 cases e:M.dirty i with
 |none=>simp
 |some s=>
  obtain⟨a,c⟩:=hdom i s e
  simp[a,c,dText,e]
theorem PgIn.kept {w4 w5 w6:World} {D4:List Nat} {E:PM} {fr:Hand} {n:Nat} (h:PgIn w4 b d lb pb hb D4 F1 K k E) (ht:Touch [hb] w4 w5) (hm:MapN w5 Tryz.prog 3 hb n (Value.int .i64) Value.string (keepP E).hot) (hn:n=cntI (fun i=>((keepP E).hot i).isSome) 100000)
  (hc:Coh fr E.dirty (baseP E)) (g:PoolGo w5 w6 pb F1 E.room K (cleanAll fr)):PgGo w5 w6 b d lb pb hb D4 F1 K k (keepP E):=by
 obtain⟨F6,hp,t6,f6⟩:=g
 have hl:=h.lt
 have hs:=ht.size
 have n1:b∉ [hb]:=by simp;exact h.nb.2.2.2
 have n2:lb∉ [hb]:=by simp;exact h.nl.2.2
 have n3: ∀x∈D4,x∉ [hb]:=fun x hx hm=>by simp at hm;subst hm;exact h.nh.1 hx
 have hk:PgOk (keepP E) k:=by
  refine⟨h.ok.disk,h.ok.geo,h.ok.size1,h.ok.most1,h.ok.room1,h.ok.room2,h.ok.frm,h.ok.lsize,h.ok.lat,h.ok.next0,h.ok.next1,h.ok.gen0,h.ok.gen1,fun i s e=>by simp[keepP] at e,fun i s e=> ?_⟩
  simp only[keepP] at e
  cases e2:E.dirty i with
  |none=>rw[e2] at e;exact h.ok.hdom i s e
  |some s2=>rw[e2] at e;simp at e;subst e;exact h.ok.dom i _ e2
 refine⟨D4,F6,⟨rowIs_touch (rowIs_touch h.cells ht n1) t6 h.nb.2.1,(h.disk.touch ht n3).touch t6 (fun x hx=>h.nd x hx),(h.log.touch ht n2).touch t6 h.nl.2.1,⟨_,hp, ?_⟩,⟨n,hn,hm.touch t6 h.nh.2⟩,hk, ?_, ?_, ?_, ?_⟩,t6.mono (fun x hx=> .inl (by simp[hx])),fun x hx=> .inl hx,f6⟩
 ·have hb':baseP (keepP E)=fun i=>(E.dirty i).getD (baseP E i):=by
   funext i
   unfold baseP keepP
   simp only
   cases E.dirty i<;>simp
  rw[hb']
  exact hc.clean
 ·exact⟨h.nb.1,fun hx=>(f6 _ hx).elim h.nb.2.1 (by omega),h.nb.2.2⟩
 ·exact⟨h.nl.1,fun hx=>(f6 _ hx).elim h.nl.2.1 (by omega),h.nl.2.2⟩
 ·exact⟨h.nh.1,fun hx=>(f6 _ hx).elim h.nh.2 (by omega)⟩
 ·intro x hx hx'
  have:=hl.2.2.2.1 x hx
  exact(f6 _ hx').elim (h.nd x hx) (by omega)
theorem PgGo.fin2 {w w2 wr w4 w5 w6:World} {D4:List Nat} (hb2:Below w.heap.size w w2) (t:Touch FP w2 wr) (hF: ∀x∈F1,x∈FP∨w2.heap.size≤x) (t4:Touch (b::lb::hb::FD) wr w4) (f4: ∀x∈D4,x∈FD∨wr.heap.size≤x) (t5:Touch [b,lb,hb] w4 w5)
  (h:PgGo w5 w6 b d lb pb hb D4 F1 K k M):PgGo w w6 b d lb pb hb FD FP K k M:=by
 have s1:=hb2.size
 have s2:=t.size
 refine PgGo.trans ?_ (fun x hx=>(f4 x hx).imp id (fun h=>by omega)) (fun x hx=>(hF x hx).imp id (fun h=>by omega)) h
 refine(((Touch.of_below (F:=b::lb::hb::(FD++FP)) hb2).trans t (fun x hx=> .inl (by simp[hx]))).trans t4 (fun x hx=> .inl ?_)).trans t5 (fun x hx=> .inl ?_)
 ·simp only[List.mem_cons] at hx
  rcases hx with rfl|rfl|rfl|hx<;>simp[*]
 ·simp at hx
  rcases hx with rfl|rfl|rfl<;>simp
set_option maxRecDepth 1000000 in
set_option maxHeartbeats 8000000 in
theorem Commit_any (h:PgIn w b d lb pb hb FD FP K k M) (hK:K≤2000000000000000000) (hk:k≤90000):
  Calls Tryz.prog 30 #[.pointer (some ⟨b,0,none⟩)] w fun e w'=>e= .returned (.int .i64 (commitP M).1)∧PgGo w w' b d lb pb hb FD FP (K+100) (k+3000000) (commitP M).2:=by
 obtain⟨i0,hi,hz0,hz1,hz2⟩:=info_parts Tryz.infoStr
 obtain⟨c0,c1,c2,c3,c4,c5,c6,c7⟩:=h.cell
 have H:=Lib.hid h
 obtain⟨fr,hp,hc⟩:=h.pool
 have HD:=Lib.hid (pdirty_any hp)
 have hkey:keysI (isDirty fr) 100000=dirtyL M:=hc.keys
 have hcn:cntDirty fr=cntD M:=hc.cnt
 rw[hkey,hcn] at HD
 have HLT:=Lib.hid h.lt
 clear h hp hc hkey hcn
 cases hdd:M.dead
 rotate_left
 ·have e:commitP M=(17,M):=by unfold commitP;rw[if_pos hdd]
  rw[e]
  rw[hdd] at c7
  go_enter Tryz.func30,Tryz.ntmps30
  go_wp2_with fail
  go_ret
  exact⟨rfl,PgGo.of_lay (LayGo.same (H.out.mono (by omega)) (Below.refl _ _) (by omega)) HLT.out.2.2.2.2⟩
 rw[hdd] at c7
 by_cases hn0:cntD M=0
 ·have e:commitP M=(0,M):=by unfold commitP;rw[if_neg (by rw[hdd];simp),if_pos hn0]
  rw[e]
  rw[hn0] at HD
  go_enter Tryz.func30,Tryz.ntmps30
  go_wp2_with fail
  refine HD.out.mono ?_
  rintro e w1 ⟨v,rfl,hrow,hb1⟩
  obtain⟨a,c,rfl, -⟩:=own_at hrow
  clear hrow
  go_wp2_with fail
  go_ret
  exact⟨rfl,PgGo.of_lay (LayGo.same (H.out.mono (by omega)) hb1 (by omega)) HLT.out.2.2.2.2⟩
 by_cases hn64:64<cntD M
 ·have e:commitP M=(10,M):=by unfold commitP;rw[if_neg (by rw[hdd];simp),if_neg hn0,if_pos hn64]
  rw[e]
  have e1:((cntD M:Int)==0)=false:=by simp;omega
  have e2:(64:Int)<(cntD M:Int):=by omega
  go_enter Tryz.func30,Tryz.ntmps30
  go_wp2_with fail
  refine HD.out.mono ?_
  rintro e w1 ⟨v,rfl,hrow,hb1⟩
  obtain⟨a,c,rfl, -⟩:=own_at hrow
  clear hrow
  go_wp2_with fail
  go_ret
  exact⟨rfl,PgGo.of_lay (LayGo.same (H.out.mono (by omega)) hb1 (by omega)) HLT.out.2.2.2.2⟩
 have e1:((cntD M:Int)==0)=false:=by simp;omega
 have e2: ¬(64:Int)<(cntD M:Int):=by omega
 go_enter Tryz.func30,Tryz.ntmps30
 go_wp2_with fail
 refine HD.out.mono ?_
 rintro e w2 ⟨v,rfl,hrow,hb2⟩
 obtain⟨a,c,rfl,hcell⟩:=own_at hrow
 obtain⟨L,hL⟩: ∃L,L=dirtyL M:=⟨_,rfl⟩
 rw[←hL] at hcell
 have hLn:L.length=cntD M:=by rw[hL];exact dirtyL_len M
 rw[←hLn]
 rw[←hLn] at e1 e2 hn0 hn64
 have HN0:=Lib.hid (And.intro hn0 hn64)
 have HCELL:=Lib.hid hcell
 have HL:=Lib.hid hL
 have HLN:=Lib.hid hLn
 have HB2:=Lib.hid hb2
 have HP2:=Lib.hid (H.out.below hb2)
 clear hrow hcell hL hLn hb2 hn0 hn64 c0 c1 c2 c3 c4 c5 c6 c7
 go_wp2_with fail
 go_loopw [4,6,7,8,35] (fun v4 v6 v7 v8 v35 wr=>GaLoop w2 b d lb pb hb FD FP K k M L v4 v35 wr) (fun _ _ _ _ v35 _=>L.length - (intOf v35).toNat)
 case atStart=>exact⟨⟨0,FP,Nat.zero_le _,rfl,HP2.out,Touch.refl _ _,fun x hx=> .inl hx,World.ownsRow_nil _ _ _ _,fun q hq=>by cases hq⟩⟩
 case round=>
  obtain⟨⟨j,F1,hj,rfl,hin,ht,hF,hrow,hq⟩⟩:=hrel
  have HIN:=Lib.hid hin
  have HT:=Lib.hid ht
  have HF:=Lib.hid hF
  have HROW:=Lib.hid hrow
  have HQ:=Lib.hid hq
  clear hin ht hF hrow hq
  obtain⟨c0,c1,c2,c3,c4,c5,c6,c7⟩:=HIN.out.cell
  have bl:=HIN.out.lt.1
  by_cases hltj:j<L.length
  ·obtain⟨x,hx⟩: ∃x,L[j]? =some x:=⟨L[j],List.getElem?_eq_getElem hltj⟩
   obtain⟨g,rfl,hg,hgl,hgc⟩:=HCELL.out j (.int .i64 x) (by rw[List.getElem?_map,hx];rfl)
   have hxm:x∈dirtyL M:=by rw[←HL.out];exact List.mem_of_getElem? hx
   obtain⟨x0,x1,x2⟩:=(dirtyL_mem M x).1 hxm
   obtain⟨s,hs⟩:=Option.isSome_iff_exists.1 x2
   have gnot:g∉FP:=fun hm=>by have:=HLT.out.2.2.2.2 _ hm;omega
   have gc:wr.cell? ⟨g,j,none⟩=some (.int .i64 x):=(HT.out.cell (p:=⟨g,j,none⟩) hgl gnot).trans hgc
   have gl:g<wr.heap.size:=Nat.lt_of_lt_of_le hgl HT.out.size
   have qj1:(0:Int)≤(j:Int):=by omega
   have qj2:(j:Int)<(L.length:Int):=by omega
   obtain⟨fr,hp,hc⟩:=HIN.out.pool
   have hfx:fr x=some (s,true):=(hc.1 x s).2 hs
   have HG:=Lib.hid (pget_any (no:=x) hp (by omega) (by omega) (by omega))
   rw[hfx] at HG
   simp only[Option.map_some,Option.getD_some,Option.isSome_some] at HG
   have HCO:=Lib.hid hc
   clear hp hc hgc gnot
   go_wp2_with fail
   refine HG.out.mono ?_
   rintro e w5 ⟨rfl,hgo⟩
   obtain⟨F5,h5,t5,f5⟩:=HIN.out.step_same hgo HCO.out
   have hfl:=HIN.out.lt
   have HROW5:=Lib.hid (ownsRow_touch HROW.out t5 (fun q hq=>HQ.out q hq))
   have HQ5:=Lib.hid (show∀q,Value.ownBlock _=some q→q∉F5 from fun q hq hm=>(f5 q hm).elim (HQ.out q hq) (fun h=>by have:=(HROW.out.lt q hq).2;omega))
   have HP5:=Lib.hid h5
   have HT5:=Lib.hid (HT.out.trans t5 (fun x hx=>HF.out x hx))
   have HF5:=Lib.hid (show∀x∈F5,x∈FP∨w2.heap.size≤x from fun x hx=>(f5 x hx).elim (HF.out x) (fun h=> .inr (Nat.le_trans HT.out.size h)))
   have hcap:j+1≤maxLen:=by have:=HN0.out.2;unfold maxLen;omega
   have hts:dText M x=s:=by unfold dText;rw[hs];rfl
   have HSN:=Lib.hid (show((L.take j).map (dText M)).map Value.string++[.string s]=((L.take (j+1)).map (dText M)).map Value.string by rw[List.take_add_one,hx];simp[hts])
   clear hgo h5 t5 f5 c0 c1 c2 c3 c4 c5 c6 c7 gc gl qj1 qj2 hts bl
   go_wp2_with (at_builtin;refine wpList_append_near _ rfl (.tmp 48) (.tmp 50) 47 rfl w2.heap.size 9 i0 (.string ⟨#[]⟩) 1 16 Tryz.underlying47 hi hz0 hz1 hz2 rfl (by decide) _ j (((L.take j).map (dText M)).map Value.string) rfl (HROW5.out.alloc _) ⟨w5.heap.size,0,none⟩ 1 1 [.string s] rfl (by decide) rfl (cell_one_new _ _ _) (by intro u hu;simp at hu;subst hu;rfl) hcap (by have:=HN0.out.2;omega) (by have:=HT5.out.size;simp;omega) ?_;intro g2 cap w7 hown hgr hat)
   rw[HSN.out] at hown
   have hlt5:=HP5.out.lt
   have hsz2:w.heap.size≤w2.heap.size:=HB2.out.size
   have hsz5:w2.heap.size≤w5.heap.size:=HT5.out.size
   have hown0:=fun q hq=>(HROW5.out.lt q hq).1
   have hT7:Touch FP w2 w7:=((HT5.out.trans ((Touch.refl [] w5).alloc (.cells #[.string s] 9)) (fun q hq=>by cases hq))).trans (Touch.of_grown hgr) (fun q hq=> .inr (hown0 q (Option.mem_toList.1 hq)))
   have hP7:PgIn w7 b d lb pb hb FD F5 (K+j+1) k M:=(HP5.out.below (below_alloc (o:= .cells #[.string s] 9) (Below.refl _ _))).touch (Touch.of_grown hgr) (fun hq=>by have:=hown0 _ (Option.mem_toList.1 hq);have:=HLT.out.1;omega) (fun hq=>by have:=hown0 _ (Option.mem_toList.1 hq);have:=HLT.out.2.1;omega) (fun hq=>by have:=hown0 _ (Option.mem_toList.1 hq);have:=HLT.out.2.2.1;omega)
    (fun x hx hq=>by have:=hown0 _ (Option.mem_toList.1 hq);have:=HLT.out.2.2.2.1 x hx;omega) (fun x hx hq=>HQ5.out x (Option.mem_toList.1 hq) hx)
   have hq7: ∀q,(Value.slice (some ⟨g2,0,none⟩) (j+1) cap).ownBlock=some q→q∉F5:=fun q hq hm=>by
    have e:q=g2:=by simp[Value.ownBlock] at hq;exact hq.symm
    subst e
    rcases hat with h|h
    ·exact HQ5.out q h hm
    ·have:=hlt5.2.2.2.2 q hm;simp at h;omega
   have HT7:=Lib.hid hT7
   have HP7:=Lib.hid hP7
   have HQ7:=Lib.hid hq7
   have HO7:=Lib.hid hown
   clear hown hgr hat hT7 hP7 hq7 hlt5 hown0
   go_wp2_with fail
   go_roundw
   case rel=>exact⟨⟨j+1,F5,by omega,by go_num,HP7.out,HT7.out,HF5.out,HO7.out,HQ7.out⟩⟩
   case measure=>simp[intOf];omega
  ·obtain rfl:L.length=j:=by omega
   obtain⟨wg,rfl⟩: ∃wg:World,wg=wr:=⟨_,rfl⟩
   obtain⟨hn0,hn64⟩:=HN0.out
   have hLm:(L.take L.length).map (dText M)=dirtyPages M:=by rw[List.take_length,HL.out];rfl
   rw[hLm] at HROW
   obtain⟨g,cap,hv⟩:=ownsRow_form HROW.out (by omega)
   subst hv
   have hpl:(dirtyPages M).length=L.length:=by rw[dirtyPages_eq,List.length_map,HL.out]
   have hsz2:w.heap.size≤w2.heap.size:=HB2.out.size
   have hg:=HROW.out.lt g rfl
   have hpg:PgAt wg (some ⟨g,0,none⟩) (dirtyPages M) (lb::FD):=by
    refine⟨g,0,rfl,fun i x hx=> ?_,fun hm=> ?_⟩
    ·rw[Nat.zero_add,HROW.out.cellAt i (by have:=(List.getElem?_eq_some_iff.1 hx).1;omega),List.getElem?_map,hx];rfl
    ·rcases List.mem_cons.1 hm with e|hm
     ·have:=HLT.out.2.1;omega
     ·have:=HLT.out.2.2.2.1 _ hm;omega
   have hall: ∀p∈dirtyPages M,p.size=512:=fun p hp=>by
    rw[dirtyPages_eq] at hp
    obtain⟨x,hx,rfl⟩:=List.mem_map.1 hp
    obtain⟨_,_,x2⟩:=(dirtyL_mem M x).1 hx
    obtain⟨s,hs⟩:=Option.isSome_iff_exists.1 x2
    unfold dText
    rw[hs]
    exact(H.out.ok.dom x s hs).2.2
   have hap:=append_step (c:=cap) HIN.out (by omega) (by omega) (by omega) hpg hall
   obtain⟨A,hA⟩: ∃A,A=apS M (dirtyPages M):=⟨_,rfl⟩
   rw[←hA,hpl] at hap
   have HAP:=Lib.hid hap
   have HPG:=Lib.hid (And.intro hpg (And.intro hall hpl))
   have HCM:=Lib.hid (commitP_eq hdd (by rw[←HLN.out];exact hn0) (by rw[←HLN.out];exact hn64) hA)
   have HA:=Lib.hid hA
   have HNN:=Lib.hid (And.intro hn0 hn64)
   have HDD:=Lib.hid hdd
   have hsz:M.size≤65536:=by have:=H.out.ok.geo;have:=H.out.ok.disk.few;omega
   have q1:IntKind.i64.wrap (9*(L.length:Int))=9*(L.length:Int):=IntWalk.i64_in _ (by omega)
   have q2:IntKind.i64.wrap (1+9*(L.length:Int))=1+9*(L.length:Int):=IntWalk.i64_in _ (by omega)
   clear hpg hall hLm hap hA hn0 hn64 hdd
   go_wp2_with fail
   refine HAP.out.mono ?_
   rintro e w4 ⟨rfl,D4,h4,t4,f4⟩
   have HP4:=Lib.hid h4
   have T4:=Lib.hid t4
   have F4:=Lib.hid f4
   clear h4 t4 f4 c0 c1 c2 c3 c4 c5 c6 c7 bl
   by_cases hz:A.1=0
   ·have ez:(A.1 != 0)=false:=by rw[hz];rfl
    have e9:(A.1==9)=false:=by rw[hz];rfl
    have T4':=Lib.hid (T4.out.mono (G:=b::lb::hb::FD) (fun x hx=> .inl (by simp only[List.mem_cons] at hx;rcases hx with rfl|hx<;>simp[*])))
    have HDA:Hid (A.2.dirty=M.dirty):=Lib.hid (by rw[HA.out];rfl)
    have hcm:=HCM.out
    rw[if_neg (fun h=>by have:=h.1;omega)] at hcm
    rw[endP_yes hz] at hcm
    have HC:=Lib.hid hcm
    obtain⟨nh,hnh,hm⟩:=HP4.out.hot
    have HMH:=Lib.hid hm
    have HNH:=Lib.hid hnh
    clear hcm hm hnh
    go_wp2_with fail
    go_loopw [10,11,98] (fun v10 v11 v98 wr=>HoLoop w4 hb M A.2.hot L v98 wr) (fun _ _ v98 _=>L.length - (intOf v98).toNat)
    case atStart=>exact⟨⟨0,nh,Nat.zero_le _,rfl,by rw[HNH.out];rfl,HMH.out,Touch.refl _ _⟩⟩
    case round=>
     obtain⟨⟨i,n9,hi9,rfl,hn9,hm9,ht9⟩⟩:=hrel
     have HN9:=Lib.hid hn9
     have HM9:=Lib.hid hm9
     have HT9:=Lib.hid ht9
     clear hn9 hm9 ht9
     have hwrs:w2.heap.size≤wg.heap.size:=HT.out.size
     have hwxs:wg.heap.size≤w4.heap.size:=T4'.out.size
     have hwys:w4.heap.size≤wr.heap.size:=HT9.out.size
     have far: ∀q,w.heap.size≤q→q∉b::lb::hb::FD:=fun q hq hm=>by
      simp only[List.mem_cons] at hm
      rcases hm with e|e|e|hm
      ·have:=HLT.out.1;omega
      ·have:=HLT.out.2.1;omega
      ·have:=HLT.out.2.2.1;omega
      ·have:=HLT.out.2.2.2.1 _ hm;omega
     have r9:=rowIs_touch HP4.out.cells HT9.out (by simp;exact HP4.out.nb.2.2.2)
     by_cases hlti:i<L.length
     ·obtain⟨x,hx⟩: ∃x,L[i]? =some x:=⟨L[i],List.getElem?_eq_getElem hlti⟩
      obtain⟨gL,rfl,hgL1,hgL2,hgc⟩:=HCELL.out i (.int .i64 x) (by rw[List.getElem?_map,hx];rfl)
      have hxm:x∈dirtyL M:=by rw[←HL.out];exact List.mem_of_getElem? hx
      obtain⟨x0,x1,x2⟩:=(dirtyL_mem M x).1 hxm
      have gc:wr.cell? ⟨gL,i,none⟩=some (.int .i64 x):=(HT9.out.cell (p:=⟨gL,i,none⟩) (by show gL<_;omega) (fun hm=>absurd (show gL=hb by simpa using hm) (by have:=HLT.out.2.2.1;omega))).trans ((T4'.out.cell (p:=⟨gL,i,none⟩) (by show gL<_;omega) (far gL (by omega))).trans ((HT.out.cell (p:=⟨gL,i,none⟩) hgL2 (fun hm=>by have:=HLT.out.2.2.2.2 gL hm;omega)).trans hgc))
      have gl:gL<wr.heap.size:=by omega
      have hpc:wg.cell? ⟨g,i,none⟩=some (.string (dText M x)):=by
       obtain⟨b',o',e',hc',hn'⟩:=HPG.out.1
       injection e' with e'
       injection e' with e1' e2'
       subst e1' e2'
       have:=hc' i (dText M x) (by rw[dirtyPages_eq,List.getElem?_map, ←HL.out,hx];rfl)
       rwa [Nat.zero_add] at this
      have pc:wr.cell? ⟨g,i,none⟩=some (.string (dText M x)):=(HT9.out.cell (p:=⟨g,i,none⟩) (by show g<_;omega) (fun hm=>absurd (show g=hb by simpa using hm) (by have:=HLT.out.2.2.1;omega))).trans ((T4'.out.cell (p:=⟨g,i,none⟩) hg.2 (far g (by omega))).trans hpc)
      have pl:g<wr.heap.size:=by omega
      have b6:wr.cell? ⟨b,6,none⟩=some (.map (some hb)):=World.rowIs.cell r9 (i:=6) (by decide)
      have bl9:=World.rowIs.lt r9
      have qi1:(0:Int)≤(i:Int):=by omega
      have qi2:(i:Int)<(L.length:Int):=by omega
      have HK:=Lib.hid (keyP (no:=x) (by omega) (by omega))
      have HX:=Lib.hid (And.intro hx (And.intro x0 x1))
      have HMQ:=fun q=>Lib.hid (HM9.out.touch (F:=[]) ((Touch.refl _ _).drewN q) (by simp))
      have hcap9:n9<maxLen:=by rw[HN9.out];have:=cntI_leN (fun k=>(hotJ M A.2.hot L i k).isSome) 100000;unfold maxLen;omega
      clear hgc hpc far r9 hx x0 x1 x2 hxm
      go_wp2_with fail
      refine wp_region_tail (C:=fun w'=> ∃n,w'=wr.drewN n) 9 (by kernel_rfl) (by kernel_rfl) ⟨1,rfl⟩ ?_
      simp only[List.take_succ_cons,List.take_zero,List.drop_succ_cons,List.drop_zero]
      repeat (first|go_big_quiet_step (fail)|quiet_step (fail))
      refine wpQuiet_nil ?_
      rintro w9 ⟨nq,rfl⟩
      clear gc gl pc pl b6 bl9 qi1 qi2
      go_wp2_with (at_mapUpdate;refine wpList_update_M _ rfl _ _ _ 130 rfl 3 9 Tryz.keyIntP Tryz.underlying130 hb n9 (Value.int .i64) Value.string (hotJ M A.2.hot L i) (HMQ nq).out rfl hcap9 x _ rfl HK.out (inj_I x) (dText M x) rfl ?_;intro w7 n7 hm7 hn7 ht7)
      have hcs:=cntI_set (p:=fun k=>(hotJ M A.2.hot L (i+1) k).isSome) (q:=fun k=>(hotJ M A.2.hot L i k).isSome) (x:=x.toNat) (fun k hk=>by
       rw[←hotJ_succ HX.out.1]
       unfold updT
       rw[if_neg (by intro e;apply hk;rw[e];have:=HX.out.2.1;omega)]) 100000 (by have:=HX.out.2.2;omega)
      rw[show((x.toNat:Nat):Int)=x by have:=HX.out.2.1;omega] at hcs
      have hnew:(hotJ M A.2.hot L (i+1) x).isSome=true:=by rw[←hotJ_succ HX.out.1];unfold updT;rw[if_pos rfl];rfl
      rw[hnew] at hcs
      have HN7:=Lib.hid (show n7=cntI (fun k=>(hotJ M A.2.hot L (i+1) k).isSome) 100000 by have:=HN9.out;simp only[if_true] at hcs;omega)
      have HM7:=Lib.hid (hotJ_succ HX.out.1▸hm7)
      have HT7:=Lib.hid ((HT9.out.drewN nq).trans ht7 (fun q hq=> .inl hq))
      clear hm7 hn7 ht7 hcs hnew
      go_wp2_with fail
      go_roundw
      case rel=>exact⟨⟨i+1,n7,by omega,by go_num,HN7.out,HM7.out,HT7.out⟩⟩
      case measure=>simp[intOf];omega
     ·obtain rfl:L.length=i:=by omega
      have hall9:=hotJ_all (E:=A.2) HDA.out (fun i s e=>by have a1:=HP4.out.ok.dom i s e;have a2:=HP4.out.ok.geo;have a3:=HP4.out.ok.disk.few;omega) HL.out
      have HN9':=HN9.out
      have HM9':=HM9.out
      rw[hall9] at HM9'
      simp only[hall9] at HN9'
      have HN10:=Lib.hid HN9'
      have HM10:=Lib.hid HM9'
      obtain⟨fr,hp,hc⟩:=HP4.out.pool
      have HCL:=Lib.hid (pclean_any (hp.touch HT9.out (fun x hx hm=>by simp at hm;subst hm;exact HP4.out.nh.2 hx)))
      have HCO:=Lib.hid hc
      have b5:wr.cell? ⟨b,5,none⟩=some (.pointer (some ⟨pb,0,none⟩)):=World.rowIs.cell r9 (i:=5) (by decide)
      have bl9:=World.rowIs.lt r9
      clear hall9 HN9' HM9' hp hc r9 far
      go_wp2_with fail
      refine HCL.out.mono ?_
      rintro e w7 ⟨rfl,hgo⟩
      have HGO:=Lib.hid hgo
      clear hgo
      go_wp2_with fail
      go_ret
      rw[HC.out]
      have hkp:=HP4.out.kept HT9.out HM10.out HN10.out HCO.out HGO.out
      refine⟨rfl, ?_⟩
      obtain⟨A1,A2,g1,g2,g3,g4⟩:=PgGo.fin2 HB2.out HT.out HF.out T4'.out F4.out (HT9.out.mono (fun x hx=> .inl (by simp at hx;simp[hx]))) hkp
      exact⟨A1,A2,(g1.mono (by have:=HNN.out.2;omega)).rek (g1.ok.disk.mono (by have:=HNN.out.2;omega)),g2,g3,g4⟩
   ·have ez:(A.1 != 0)=true:=by simpa using hz
    by_cases h9:A.1=9
    ·have hdA:A.2.dead=false:=by rw[HA.out];exact HDD.out
     have hsA:A.2.size=M.size:=by rw[HA.out];rfl
     have e9:(A.1==9)=true:=by rw[h9];rfl
     have e9':(A.1 != 9)=false:=by rw[h9];rfl
     by_cases hfit:1+9*cntD M≤M.size
     ·have hcm:=HCM.out
      rw[if_pos ⟨h9,hfit⟩] at hcm
      have hly:=lay_any HP4.out (by have:=HNN.out.2;omega)
      obtain⟨Y,hY⟩: ∃Y,Y=layP A.2:=⟨_,rfl⟩
      rw[←hY] at hly hcm
      have HLY:=Lib.hid hly
      have HY:=Lib.hid hY
      have hfit':1+9*(L.length:Int)≤(M.size:Int):=by have:=HLN.out;omega
      obtain⟨c0,c1,c2,c3,c4,c5,c6,c7⟩:=HP4.out.cell
      have bl:=HP4.out.lt.1
      rw[hsA] at c2
      clear hly hY h9 hz hsA hdA hfit
      go_wp2_with fail
      refine HLY.out.mono ?_
      rintro e w5 ⟨rfl,D5,h5,t5,f5⟩
      have HP5:=Lib.hid h5
      have T5:=Lib.hid (T4.out.mono (G:=b::lb::hb::FD) (fun x hx=> .inl (by simp only[List.mem_cons] at hx;rcases hx with rfl|hx<;>simp[*])) |>.trans t5 (fun x hx=>by
       simp only[List.mem_cons] at hx ⊢
       rcases hx with rfl|rfl|rfl|hx
       ·exact .inl (.inl rfl)
       ·exact .inl (.inr (.inl rfl))
       ·exact .inl (.inr (.inr (.inl rfl)))
       ·exact(F4.out x hx).imp (fun h=> .inr (.inr (.inr h))) id))
      have F5:=Lib.hid (show∀x∈D5,x∈FD∨wg.heap.size≤x from fun x hx=>(f5 x hx).elim (F4.out x) (fun h=> .inr (Nat.le_trans T4.out.size h)))
      clear h5 t5 f5 c0 c1 c2 c3 c4 c5 c6 c7 bl q1 q2 hfit' e9 e9' ez HLY
      by_cases hy:Y.1=0
      ·rw[if_pos hy] at hcm
       have hyw:Y.2.m.wait=[]:=by rw[HY.out];rw[HY.out] at hy;exact layP_wait hy
       have hyd:dirtyPages Y.2=dirtyPages M:=by
        have e:Y.2.dirty=M.dirty:=by rw[HY.out,(layP_m A.2).2.2,HA.out];rfl
        unfold dirtyPages dirtyL
        rw[e]
       have hwrs:w2.heap.size≤wg.heap.size:=HT.out.size
       have gno:g∉b::lb::hb::FD:=fun hm=>by
        simp only[List.mem_cons] at hm
        rcases hm with e|e|e|hm
        ·have:=HLT.out.1;omega
        ·have:=HLT.out.2.1;omega
        ·have:=HLT.out.2.2.1;omega
        ·have:=HLT.out.2.2.2.1 _ hm;omega
       have hpg5:PgAt w5 (some ⟨g,0,none⟩) (dirtyPages M) (lb::D5):=by
        obtain⟨b',o',e',hc',hn'⟩:=HPG.out.1
        injection e' with e'
        injection e' with e1' e2'
        subst e1' e2'
        refine⟨g,0,rfl,fun i x hx=>(T5.out.cell (p:=⟨g,0+i,none⟩) hg.2 gno).trans (hc' i x hx),fun hm=> ?_⟩
        rcases List.mem_cons.1 hm with e|hm
        ·exact gno (by simp[e])
        ·rcases F5.out g hm with h|h
         ·exact gno (by simp[h])
         ·omega
       have hap5:=append_step (c:=cap) (HP5.out.rek (HP5.out.ok.disk.calm hyw)) (by omega) (by have:=HPG.out.2.2;have:=HNN.out;omega) (by have:=HPG.out.2.2;have:=HNN.out;omega) hpg5 HPG.out.2.1
       have e3:apP Y.2=apS Y.2 (dirtyPages M):=by
        unfold apP apS
        rw[hyd]
       obtain⟨Z,hZ⟩: ∃Z,Z=apS Y.2 (dirtyPages M):=⟨_,rfl⟩
       rw[←hZ,HPG.out.2.2] at hap5
       rw[e3, ←hZ] at hcm
       have HAP5:=Lib.hid hap5
       have HZ:=Lib.hid hZ
       obtain⟨c0,c1,c2,c3,c4,c5,c6,c7⟩:=HP5.out.cell
       have bl:=HP5.out.lt.1
       have ey:(Y.1==0)=true:=by rw[hy];rfl
       clear hy hyw hyd gno hpg5 hap5 e3 hZ hwrs
       go_wp2_with fail
       refine HAP5.out.mono ?_
       rintro e w6 ⟨rfl,D6,h6,t6,f6⟩
       have HP6:=Lib.hid h6
       have T6:=Lib.hid (T5.out.trans (t6.mono (G:=b::lb::hb::D5) (fun x hx=> .inl (by simp only[List.mem_cons] at hx;rcases hx with rfl|hx<;>simp[*]))) (fun x hx=>by
        simp only[List.mem_cons] at hx ⊢
        rcases hx with rfl|rfl|rfl|hx
        ·exact .inl (.inl rfl)
        ·exact .inl (.inr (.inl rfl))
        ·exact .inl (.inr (.inr (.inl rfl)))
        ·exact(F5.out x hx).imp (fun h=> .inr (.inr (.inr h))) id))
       have F6:=Lib.hid (show∀x∈D6,x∈FD∨wg.heap.size≤x from fun x hx=>(f6 x hx).elim (F5.out x) (fun h=> .inr (Nat.le_trans T5.out.size h)))
       clear h6 t6 f6 c0 c1 c2 c3 c4 c5 c6 c7 bl ey HAP5
       by_cases hz3:Z.1=0
       ·have ez3:(Z.1 != 0)=false:=by rw[hz3];rfl
        have HDZ:Hid (Z.2.dirty=M.dirty):=Lib.hid (by rw[HZ.out];show Y.2.dirty=_;rw[HY.out,(layP_m A.2).2.2,HA.out];rfl)
        rw[endP_yes hz3] at hcm
        have HC:=Lib.hid hcm
        obtain⟨nh,hnh,hm⟩:=HP6.out.hot
        have HMH:=Lib.hid hm
        have HNH:=Lib.hid hnh
        clear hcm hm hnh
        go_wp2_with fail
        go_loopw [10,11,98] (fun v10 v11 v98 wr=>HoLoop w6 hb M Z.2.hot L v98 wr) (fun _ _ v98 _=>L.length - (intOf v98).toNat)
        case atStart=>exact⟨⟨0,nh,Nat.zero_le _,rfl,by rw[HNH.out];rfl,HMH.out,Touch.refl _ _⟩⟩
        case round=>
         obtain⟨⟨i,n9,hi9,rfl,hn9,hm9,ht9⟩⟩:=hrel
         have HN9:=Lib.hid hn9
         have HM9:=Lib.hid hm9
         have HT9:=Lib.hid ht9
         clear hn9 hm9 ht9
         have hwrs:w2.heap.size≤wg.heap.size:=HT.out.size
         have hwxs:wg.heap.size≤w6.heap.size:=T6.out.size
         have hwys:w6.heap.size≤wr.heap.size:=HT9.out.size
         have far: ∀q,w.heap.size≤q→q∉b::lb::hb::FD:=fun q hq hm=>by
          simp only[List.mem_cons] at hm
          rcases hm with e|e|e|hm
          ·have:=HLT.out.1;omega
          ·have:=HLT.out.2.1;omega
          ·have:=HLT.out.2.2.1;omega
          ·have:=HLT.out.2.2.2.1 _ hm;omega
         have r9:=rowIs_touch HP6.out.cells HT9.out (by simp;exact HP6.out.nb.2.2.2)
         by_cases hlti:i<L.length
         ·obtain⟨x,hx⟩: ∃x,L[i]? =some x:=⟨L[i],List.getElem?_eq_getElem hlti⟩
          obtain⟨gL,rfl,hgL1,hgL2,hgc⟩:=HCELL.out i (.int .i64 x) (by rw[List.getElem?_map,hx];rfl)
          have hxm:x∈dirtyL M:=by rw[←HL.out];exact List.mem_of_getElem? hx
          obtain⟨x0,x1,x2⟩:=(dirtyL_mem M x).1 hxm
          have gc:wr.cell? ⟨gL,i,none⟩=some (.int .i64 x):=(HT9.out.cell (p:=⟨gL,i,none⟩) (by show gL<_;omega) (fun hm=>absurd (show gL=hb by simpa using hm) (by have:=HLT.out.2.2.1;omega))).trans ((T6.out.cell (p:=⟨gL,i,none⟩) (by show gL<_;omega) (far gL (by omega))).trans ((HT.out.cell (p:=⟨gL,i,none⟩) hgL2 (fun hm=>by have:=HLT.out.2.2.2.2 gL hm;omega)).trans hgc))
          have gl:gL<wr.heap.size:=by omega
          have hpc:wg.cell? ⟨g,i,none⟩=some (.string (dText M x)):=by
           obtain⟨b',o',e',hc',hn'⟩:=HPG.out.1
           injection e' with e'
           injection e' with e1' e2'
           subst e1' e2'
           have:=hc' i (dText M x) (by rw[dirtyPages_eq,List.getElem?_map, ←HL.out,hx];rfl)
           rwa [Nat.zero_add] at this
          have pc:wr.cell? ⟨g,i,none⟩=some (.string (dText M x)):=(HT9.out.cell (p:=⟨g,i,none⟩) (by show g<_;omega) (fun hm=>absurd (show g=hb by simpa using hm) (by have:=HLT.out.2.2.1;omega))).trans ((T6.out.cell (p:=⟨g,i,none⟩) hg.2 (far g (by omega))).trans hpc)
          have pl:g<wr.heap.size:=by omega
          have b6:wr.cell? ⟨b,6,none⟩=some (.map (some hb)):=World.rowIs.cell r9 (i:=6) (by decide)
          have bl9:=World.rowIs.lt r9
          have qi1:(0:Int)≤(i:Int):=by omega
          have qi2:(i:Int)<(L.length:Int):=by omega
          have HK:=Lib.hid (keyP (no:=x) (by omega) (by omega))
          have HX:=Lib.hid (And.intro hx (And.intro x0 x1))
          have HMQ:=fun q=>Lib.hid (HM9.out.touch (F:=[]) ((Touch.refl _ _).drewN q) (by simp))
          have hcap9:n9<maxLen:=by rw[HN9.out];have:=cntI_leN (fun k=>(hotJ M Z.2.hot L i k).isSome) 100000;unfold maxLen;omega
          clear hgc hpc far r9 hx x0 x1 x2 hxm
          go_wp2_with fail
          refine wp_region_tail (C:=fun w'=> ∃n,w'=wr.drewN n) 9 (by kernel_rfl) (by kernel_rfl) ⟨1,rfl⟩ ?_
          simp only[List.take_succ_cons,List.take_zero,List.drop_succ_cons,List.drop_zero]
          repeat (first|go_big_quiet_step (fail)|quiet_step (fail))
          refine wpQuiet_nil ?_
          rintro w9 ⟨nq,rfl⟩
          clear gc gl pc pl b6 bl9 qi1 qi2
          go_wp2_with (at_mapUpdate;refine wpList_update_M _ rfl _ _ _ 130 rfl 3 9 Tryz.keyIntP Tryz.underlying130 hb n9 (Value.int .i64) Value.string (hotJ M Z.2.hot L i) (HMQ nq).out rfl hcap9 x _ rfl HK.out (inj_I x) (dText M x) rfl ?_;intro w7 n7 hm7 hn7 ht7)
          have hcs:=cntI_set (p:=fun k=>(hotJ M Z.2.hot L (i+1) k).isSome) (q:=fun k=>(hotJ M Z.2.hot L i k).isSome) (x:=x.toNat) (fun k hk=>by
           rw[←hotJ_succ HX.out.1]
           unfold updT
           rw[if_neg (by intro e;apply hk;rw[e];have:=HX.out.2.1;omega)]) 100000 (by have:=HX.out.2.2;omega)
          rw[show((x.toNat:Nat):Int)=x by have:=HX.out.2.1;omega] at hcs
          have hnew:(hotJ M Z.2.hot L (i+1) x).isSome=true:=by rw[←hotJ_succ HX.out.1];unfold updT;rw[if_pos rfl];rfl
          rw[hnew] at hcs
          have HN7:=Lib.hid (show n7=cntI (fun k=>(hotJ M Z.2.hot L (i+1) k).isSome) 100000 by have:=HN9.out;simp only[if_true] at hcs;omega)
          have HM7:=Lib.hid (hotJ_succ HX.out.1▸hm7)
          have HT7:=Lib.hid ((HT9.out.drewN nq).trans ht7 (fun q hq=> .inl hq))
          clear hm7 hn7 ht7 hcs hnew
          go_wp2_with fail
          go_roundw
          case rel=>exact⟨⟨i+1,n7,by omega,by go_num,HN7.out,HM7.out,HT7.out⟩⟩
          case measure=>simp[intOf];omega
         ·obtain rfl:L.length=i:=by omega
          have hall9:=hotJ_all (E:=Z.2) HDZ.out (fun i s e=>by have a1:=HP6.out.ok.dom i s e;have a2:=HP6.out.ok.geo;have a3:=HP6.out.ok.disk.few;omega) HL.out
          have HN9':=HN9.out
          have HM9':=HM9.out
          rw[hall9] at HM9'
          simp only[hall9] at HN9'
          have HN10:=Lib.hid HN9'
          have HM10:=Lib.hid HM9'
          obtain⟨fr,hp,hc⟩:=HP6.out.pool
          have HCL:=Lib.hid (pclean_any (hp.touch HT9.out (fun x hx hm=>by simp at hm;subst hm;exact HP6.out.nh.2 hx)))
          have HCO:=Lib.hid hc
          have b5:wr.cell? ⟨b,5,none⟩=some (.pointer (some ⟨pb,0,none⟩)):=World.rowIs.cell r9 (i:=5) (by decide)
          have bl9:=World.rowIs.lt r9
          clear hall9 HN9' HM9' hp hc r9 far
          go_wp2_with fail
          refine HCL.out.mono ?_
          rintro e w7 ⟨rfl,hgo⟩
          have HGO:=Lib.hid hgo
          clear hgo
          go_wp2_with fail
          go_ret
          rw[HC.out]
          have hkp:=HP6.out.kept HT9.out HM10.out HN10.out HCO.out HGO.out
          refine⟨rfl, ?_⟩
          obtain⟨A1,A2,g1,g2,g3,g4⟩:=PgGo.fin2 HB2.out HT.out HF.out T6.out F6.out (HT9.out.mono (fun x hx=> .inl (by simp at hx;simp[hx]))) hkp
          exact⟨A1,A2,(g1.mono (by have:=HNN.out.2;omega)).rek (g1.ok.disk.mono (by have:=HNN.out.2;omega)),g2,g3,g4⟩
       ·rw[endP_no hz3] at hcm
        have ez3:(Z.1 != 0)=true:=by simpa using hz3
        clear hz3
        obtain⟨vv,hvv⟩: ∃vv,vv=(Z.2.dead||decide (Z.1≠9)):=⟨_,rfl⟩
        rw[←hvv] at hcm
        have HC:=Lib.hid hcm
        have HDE:=Lib.hid (HP6.out.died vv)
        have HTD:Hid (∀vv,Touch [b,lb,hb] w6 (w6.setCell ⟨b,7,none⟩ (.bool vv))):=Lib.hid (fun vv=>(Touch.refl _ _).setCell (.inl (by simp)) _)
        obtain⟨c0,c1,c2,c3,c4,c5,c6,c7⟩:=HP6.out.cell
        have bl:=HP6.out.lt.1
        have fz:=World.rowIs.frozen HP6.out.cells 7
        clear hcm
        cases hdE:Z.2.dead
        ·by_cases hE9:Z.1=9
         ·have en:(Z.1 != 9)=false:=by rw[hE9];rfl
          obtain rfl:vv=false:=by rw[hvv,hdE,hE9];rfl
          rw[hdE] at c7
          clear hvv hdE hE9
          go_wp2_with fail
          go_ret
          rw[HC.out]
          exact⟨rfl,PgGo.fin HB2.out HT.out HF.out T6.out F6.out (HTD.out _) ((HDE.out.mono (by have:=HNN.out.2;omega)).rek (HDE.out.ok.disk.mono (by have:=HNN.out.2;omega)))⟩
         ·have en:(Z.1 != 9)=true:=by simpa using hE9
          obtain rfl:vv=true:=by rw[hvv,hdE];simp[hE9]
          rw[hdE] at c7
          clear hvv hdE hE9
          go_wp2_with fail
          go_ret
          rw[HC.out]
          exact⟨rfl,PgGo.fin HB2.out HT.out HF.out T6.out F6.out (HTD.out _) ((HDE.out.mono (by have:=HNN.out.2;omega)).rek (HDE.out.ok.disk.mono (by have:=HNN.out.2;omega)))⟩
        ·obtain rfl:vv=true:=by rw[hvv,hdE];rfl
         rw[hdE] at c7
         clear hvv hdE
         go_wp2_with fail
         go_ret
         rw[HC.out]
         exact⟨rfl,PgGo.fin HB2.out HT.out HF.out T6.out F6.out (HTD.out _) ((HDE.out.mono (by have:=HNN.out.2;omega)).rek (HDE.out.ok.disk.mono (by have:=HNN.out.2;omega)))⟩
      ·rw[if_neg hy,endP_no hy] at hcm
       have ey:(Y.1==0)=false:=by simpa using hy
       have ey':(Y.1 != 0)=true:=by simpa using hy
       clear hy
       obtain⟨vv,hvv⟩: ∃vv,vv=(Y.2.dead||decide (Y.1≠9)):=⟨_,rfl⟩
       rw[←hvv] at hcm
       have HC:=Lib.hid hcm
       have HDE:=Lib.hid (HP5.out.died vv)
       have HTD:Hid (∀vv,Touch [b,lb,hb] w5 (w5.setCell ⟨b,7,none⟩ (.bool vv))):=Lib.hid (fun vv=>(Touch.refl _ _).setCell (.inl (by simp)) _)
       obtain⟨c0,c1,c2,c3,c4,c5,c6,c7⟩:=HP5.out.cell
       have bl:=HP5.out.lt.1
       have fz:=World.rowIs.frozen HP5.out.cells 7
       clear hcm
       cases hdE:Y.2.dead
       ·by_cases hE9:Y.1=9
        ·have en:(Y.1 != 9)=false:=by rw[hE9];rfl
         obtain rfl:vv=false:=by rw[hvv,hdE,hE9];rfl
         rw[hdE] at c7
         clear hvv hdE hE9
         go_wp2_with fail
         go_ret
         rw[HC.out]
         exact⟨rfl,PgGo.fin HB2.out HT.out HF.out T5.out F5.out (HTD.out _) ((HDE.out.mono (by have:=HNN.out.2;omega)).rek (HDE.out.ok.disk.mono (by have:=HNN.out.2;omega)))⟩
        ·have en:(Y.1 != 9)=true:=by simpa using hE9
         obtain rfl:vv=true:=by rw[hvv,hdE];simp[hE9]
         rw[hdE] at c7
         clear hvv hdE hE9
         go_wp2_with fail
         go_ret
         rw[HC.out]
         exact⟨rfl,PgGo.fin HB2.out HT.out HF.out T5.out F5.out (HTD.out _) ((HDE.out.mono (by have:=HNN.out.2;omega)).rek (HDE.out.ok.disk.mono (by have:=HNN.out.2;omega)))⟩
       ·obtain rfl:vv=true:=by rw[hvv,hdE];rfl
        rw[hdE] at c7
        clear hvv hdE
        go_wp2_with fail
        go_ret
        rw[HC.out]
        exact⟨rfl,PgGo.fin HB2.out HT.out HF.out T5.out F5.out (HTD.out _) ((HDE.out.mono (by have:=HNN.out.2;omega)).rek (HDE.out.ok.disk.mono (by have:=HNN.out.2;omega)))⟩
     ·have hcm:=HCM.out
      rw[if_neg (fun h=>hfit h.2),endP_no hz,show(A.2.dead||decide (A.1≠9))=false by simp[h9,hdA]] at hcm
      have HC:=Lib.hid hcm
      obtain⟨z,hzz⟩: ∃z:Int,z=1+9*(L.length:Int):=⟨_,rfl⟩
      rw[←hzz] at q2
      have q2':IntKind.i64.wrap (1+9*(L.length:Int))=z:=by rw[hzz];exact IntWalk.i64_in _ (by omega)
      have hfit': ¬z≤(M.size:Int):=by have:=HLN.out;omega
      clear hcm hfit q2 hzz
      have HDE:=Lib.hid (HP4.out.died (A.2.dead||decide (A.1≠9)))
      obtain⟨c0,c1,c2,c3,c4,c5,c6,c7⟩:=HP4.out.cell
      have bl:=HP4.out.lt.1
      have fz:=World.rowIs.frozen HP4.out.cells 7
      rw[show(A.2.dead||decide (A.1≠9))=false by simp[h9,hdA]] at HDE
      rw[hsA] at c2
      rw[hdA] at c7
      have T4':=Lib.hid (T4.out.mono (G:=b::lb::hb::FD) (fun x hx=> .inl (by simp only[List.mem_cons] at hx;rcases hx with rfl|hx<;>simp[*])))
      have TD:Hid (Touch [b,lb,hb] w4 (w4.setCell ⟨b,7,none⟩ (.bool false))):=Lib.hid ((Touch.refl _ _).setCell (.inl (by simp)) _)
      clear h9 hz hsA hdA
      go_wp2_with fail
      go_ret
      rw[HC.out]
      exact⟨rfl,PgGo.fin HB2.out HT.out HF.out T4'.out F4.out TD.out ((HDE.out.mono (by have:=HNN.out.2;omega)).rek (HDE.out.ok.disk.mono (by have:=HNN.out.2;omega)))⟩
    ·have e9:(A.1==9)=false:=by simpa using h9
     have e9':(A.1 != 9)=true:=by simpa using h9
     have hcm:=HCM.out
     rw[if_neg (fun h=>h9 h.1),endP_no hz,show(A.2.dead||decide (A.1≠9))=true by simp[h9]] at hcm
     have HC:=Lib.hid hcm
     clear hcm
     have HDE:=Lib.hid (HP4.out.died (A.2.dead||decide (A.1≠9)))
     obtain⟨c0,c1,c2,c3,c4,c5,c6,c7⟩:=HP4.out.cell
     have bl:=HP4.out.lt.1
     have fz:=World.rowIs.frozen HP4.out.cells 7
     rw[show(A.2.dead||decide (A.1≠9))=true by simp[h9]] at HDE
     have T4':=Lib.hid (T4.out.mono (G:=b::lb::hb::FD) (fun x hx=> .inl (by simp only[List.mem_cons] at hx;rcases hx with rfl|hx<;>simp[*])))
     have TD:Hid (Touch [b,lb,hb] w4 (w4.setCell ⟨b,7,none⟩ (.bool true))):=Lib.hid ((Touch.refl _ _).setCell (.inl (by simp)) _)
     cases hdA:A.2.dead
     ·rw[hdA] at c7
      go_wp2_with fail
      go_ret
      rw[HC.out]
      exact⟨rfl,PgGo.fin HB2.out HT.out HF.out T4'.out F4.out TD.out ((HDE.out.mono (by have:=HNN.out.2;omega)).rek (HDE.out.ok.disk.mono (by have:=HNN.out.2;omega)))⟩
     ·rw[hdA] at c7
      go_wp2_with fail
      go_ret
      rw[HC.out]
      exact⟨rfl,PgGo.fin HB2.out HT.out HF.out T4'.out F4.out TD.out ((HDE.out.mono (by have:=HNN.out.2;omega)).rek (HDE.out.ok.disk.mono (by have:=HNN.out.2;omega)))⟩
end
end Go.Proofs.YtjgkegkinnlcoaaGreatDoor
