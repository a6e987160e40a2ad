/- Lemmas on the way to the statement: BtPutW. -/
import Derived.Test.YtjgkegkinnlcoaaGreatDoorJ13
set_option linter.unusedSimpArgs false
set_option linter.unusedVariables false
namespace Go.Proofs.YtjgkegkinnlcoaaGreatDoor
open Go.RowKit Go.Maps Go.Joins
theorem putL_zero (key val:Int) (M:PM) (no:Int):putL key val 0 M no=(0,0,19,M):=rfl
theorem putL_succ (key val:Int) (f:Nat) (M:PM) (no:Int):putL key val (f+1) M no=if (ndRead M no).1≠0 then(0,0,(ndRead M no).1,M) else
  if (ndRead M no).2.leaf=true then splitB M no (ndPut (ndRead M no).2 key val) else
  if (putL key val f M ((ndRead M no).2.kids.getD (placeN (ndRead M no).2 key) 0)).2.2.1≠0∨(putL key val f M ((ndRead M no).2.kids.getD (placeN (ndRead M no).2 key) 0)).2.1=0 then(0,0,(putL key val f M ((ndRead M no).2.kids.getD (placeN (ndRead M no).2 key) 0)).2.2.1,(putL key val f M ((ndRead M no).2.kids.getD (placeN (ndRead M no).2 key) 0)).2.2.2)
  else splitB (putL key val f M ((ndRead M no).2.kids.getD (placeN (ndRead M no).2 key) 0)).2.2.2 no (moreN (ndRead M no).2 (placeN (ndRead M no).2 key) (putL key val f M ((ndRead M no).2.kids.getD (placeN (ndRead M no).2 key) 0)).1 (putL key val f M ((ndRead M no).2.kids.getD (placeN (ndRead M no).2 key) 0)).2.1):=rfl
def PtPost (w0 w:World) (p K:Nat) (X:List Nat) (r:Int × Int × Int × PM) (e:Ending) (w':World):Prop:=
 e= .returned (.tuple #[.agg #[.int .u64 r.1, .int .i64 r.2.1], .int .i64 r.2.2.1])∧PgX w0 w' p K r.2.2.2 X∧SameX X w w'∧(0≤r.1∧r.1≤18446744073709551615)∧0≤r.2.1∧r.2.1≤4294967295
theorem split_bd {w0 w:World} {p K J:Nat} {M:PM} {X:List Nat} {n:ND} (h:PgX w0 w p K M X) (hs:NdSh n J) (no:Int):(0≤(splitB M no n).1∧(splitB M no n).1≤18446744073709551615)∧0≤(splitB M no n).2.1∧(splitB M no n).2.1≤4294967295:=by
 have ha:=h.alloc_bd (ndK (halfB n))
 unfold splitB
 by_cases hf:fullN n=false
 ·rw[if_pos hf];simp
 ·rw[if_neg hf]
  have hf:fullN n=true:=by simpa using hf
  have h3:3≤n.keys.length:=by
   unfold fullN at hf
   simp only[Bool.or_eq_true,Bool.and_eq_true,decide_eq_true_eq] at hf
   omega
  have hk:=hs.halfK (by omega)
  have hq:0≤(freshB M (halfB n)).1∧(freshB M (halfB n)).1≤4294967295:=by
   unfold freshB
   simp only
   split
   ·simp
   ·exact ha
  simp only
  split
  ·simp
  ·exact⟨hk,hq⟩
theorem pt_end {w0 w w6 w7:World} {p K J:Nat} {M:PM} {X:List Nat} {o:Obj} (hp:PgX w0 w6 p J M (w.heap.size::X)) (hs:SameX (w.heap.size::X) (w.alloc o) w6) (t:Touch [w.heap.size] w6 w7) (hX: ∀x∈X,x<w.heap.size) (hw:w0.heap.size≤w.heap.size) (hJ:J≤K):PgX w0 w7 p K M X∧SameX X w w7:=
 ⟨((hp.touch t (fun x hx=>by simp at hx;subst hx;exact⟨by simp,hw⟩)).sub (fun y hy=>by simp[hy])).mono hJ,((SameX.of_below (below_alloc (Below.refl _ _)) hX).trans hs.tail).trans (SameX.of_touch t (fun x hx=>⟨hp.lt x (by simp[hx]),by have:=hX x hx;simp;omega⟩))⟩
def InsSt (w0 w wx:World) (p K:Nat) (M:PM) (X:List Nat) (b B:Nat) (n:ND):Prop:= ∃aK cK aV cV aC cC,InSt w0 w wx p K M X b B (.slice aK n.keys.length cK) (.slice aV n.vals.length cV) (.slice aC n.kids.length cC) n.keys n.vals n.kids (ndF (.slice aK n.keys.length cK) (.slice aV n.vals.length cV) (.slice aC n.kids.length cC) n)
structure VecSt (s:Nat) (W:World) (t:TypeId) (b:Nat) (x:Value):Prop where
 ge:s≤b
 at_:W.heap[b]? =some (.cells #[x] t (0,0))
theorem VecSt.touch {s b:Nat} {t:TypeId} {x:Value} {W W':World} {F:List Nat} (h:VecSt s W t b x) (k:Touch F W W') (hb:b∉F):VecSt s W' t b x:=by
 have hlt:b<W.heap.size:=(Array.getElem?_eq_some_iff.1 h.at_).1
 exact⟨h.ge,(k.block hlt hb).trans h.at_⟩
theorem VecSt.new {s:Nat} {W:World} (t:TypeId) (x:Value) (h:s≤W.heap.size):VecSt s (W.alloc (.cells #[x] t)) t W.heap.size x:=⟨h,heap_alloc_new W _⟩
theorem par3_name {P:Program} {ops:Array Oper} {Q:Exit→Act→World→Prop} {S:World→Prop} {n b f:Nat} {listed:Array Bool} {a:Act} {w:World} (h: ∀W,W=w→wpPar3 P ops Q S n b f listed a W):wpPar3 P ops Q S n b f listed a w:=h w rfl
theorem ndSt_congr {w0 w w1:World} {p K B b:Nat} {M:PM} {X:List Nat} {kv vv cv:Value} {lk lv lc:List Int} {f f':Nat→Value} (h:InSt w0 w w1 p K M X b B kv vv cv lk lv lc f) (e: ∀i,i<4→f i=f' i):InSt w0 w w1 p K M X b B kv vv cv lk lv lc f':=
 ⟨h.pg,World.rowIs.congr h.box e,h.ks,h.vs,h.cs,h.nd,h.xx,h.hb,h.hB,h.sx⟩
theorem InSt.rebase {w0 w w1 w':World} {p K B b z:Nat} {M:PM} {X:List Nat} {kv vv cv:Value} {lk lv lc:List Int} {f:Nat→Value} (h:InSt w0 w w1 p K M X b B kv vv cv lk lv lc f) (hb:Below w1.heap.size w1 w') (hz:w1.heap.size≤z) (hz':z<w'.heap.size):InSt w0 w' w' p K M (z::X) b B kv vv cv lk lv lc f:=by
 have h2:=h.below hb
 have hlt:=h.pg.lt
 refine⟨h.pg.move hb (fun y hy=> ?_),h2.box,h2.ks,h2.vs,h2.cs,h2.nd,fun x hx=> ?_,h2.hb,h2.hB,SameX.refl _ _⟩
 ·simp only[List.mem_append,List.mem_cons] at hy ⊢
  rcases hy with hy|rfl|rfl|hy
  ·simp[hy]
  ·simp
  ·exact .inr ⟨hz,hz'⟩
  ·simp[hy]
 ·rcases List.mem_cons.1 hx with rfl|hx
  ·exact⟨fun hm=>by have:=hlt x (by simp[hm]);omega,fun e=>by have:=hlt b (by simp);omega⟩
  ·exact h.xx x hx
theorem InSt.unbase {w0 w w1 w':World} {p K B b z:Nat} {M:PM} {X:List Nat} {kv vv cv:Value} {lk lv lc:List Int} {f:Nat→Value} (h:InSt w0 w1 w' p K M (z::X) b B kv vv cv lk lv lc f) (hs:SameX X w w1):InSt w0 w w' p K M X b B kv vv cv lk lv lc f:=
 ⟨h.pg.sub (fun y hy=>by simp only[List.mem_append,List.mem_cons] at hy ⊢;rcases hy with hy|hy|hy<;>simp[hy]),h.box,h.ks,h.vs,h.cs,h.nd,fun x hx=>h.xx x (List.mem_cons_of_mem _ hx),h.hb,h.hB,hs.trans (h.sx.sub (fun y hy=>List.mem_cons_of_mem _ hy))⟩
set_option maxRecDepth 100000 in
set_option maxHeartbeats 8000000 in
theorem bput_any (key val:Int) (hk:0≤key∧key≤18446744073709551615) (hv:0≤val∧val≤18446744073709551615) (f:Nat): ∀ {w0 w:World} {p K:Nat} {M:PM} {X:List Nat} (h:PgX w0 w p K M X) (hK:K+30*f≤900000000000) (no deep:Int) (hd:deep+f=17),
  Calls Tryz.prog 56 #[.pointer (some ⟨p,0,none⟩), .int .i64 no, .int .u64 key, .int .u64 val, .int .i64 deep] w (PtPost w0 w p (K+30*f) X (putL key val f M no)):=by
 induction f with
 |zero=>
  intro w0 w p K M X h hK no deep hd
  obtain rfl:deep=17:=by omega
  have HPG:=Lib.hid h
  have HX:=Lib.hid h.lt
  have hw:=h.below.size
  have HROP:=Lib.hid (ptF_new w 0 0)
  clear h
  go_enter Tryz.func56,Tryz.ntmps56
  go_wp2_with (refine wpList_store_part rfl (.tmp 10) (.tmp 20) rfl w.heap.size 0 0 rfl rfl HROP.out ?_;intro w3 hr3 t3;have HR3:=Lib.hid hr3;have HT3:=Lib.hid t3;clear hr3 t3)
  refine bodyPost_ret_by (res_part2 Tryz.results56 rfl HR3.out) rfl ?_
  refine⟨rfl, ?_, ?_,by simp[putL_zero],by simp[putL_zero]⟩
  ·exact(((HPG.out.more (below_alloc (Below.refl _ _)) (Nat.le_refl _) (World.rowIs.lt HROP.out)).touch HT3.out (fun x hx=>by simp at hx;subst hx;exact⟨by simp,hw⟩)).sub (fun y hy=>by simp[hy])).mono (by omega)
  ·exact(SameX.of_below (below_alloc (Below.refl _ _)) HX.out).trans (SameX.of_touch HT3.out (fun x hx=>by have:=HX.out x hx;simp;omega))
 |succ f ih=>
  intro w0 w p K M X h hK no deep hd
  have hdd:deep≤16:=by omega
  have HRD:=Lib.hid (bread_any (h.more (w':=w.alloc (.cells #[.int .u64 0, .int .i64 0] 111)) (below_alloc (Below.refl _ _)) (Nat.le_refl _) (by simp)) (by omega) no)
  have hdn:=fun hok:(ndRead M no).1=0=>ndRead_ok (M:=M) (no:=no) (n:=(ndRead M no).2) (by rw[←hok])
  have HX:=Lib.hid h.lt
  have HXB:=Lib.hid (show∀x∈w.heap.size::X,x<w.heap.size+1 from fun x hx=>by
   simp only[List.mem_cons] at hx
   rcases hx with rfl|hx
   ·omega
   ·have:=h.lt x hx;omega)
  have hw:=h.below.size
  have HROP:=Lib.hid (ptF_new w 0 0)
  have HIH:=fun w0 w p K M X=>Lib.hid (@ih w0 w p K M X)
  rw[putL_succ]
  generalize ndRead M no=D at HRD hdn
  obtain⟨er,n⟩:=D
  simp only at HRD hdn ⊢
  have HDN:=Lib.hid hdn
  obtain⟨R,hR⟩: ∃R:Int × Int × Int × PM,R=if er≠0 then(0,0,er,M) else if n.leaf=true then splitB M no (ndPut n key val) else if (putL key val f M (n.kids.getD (placeN n key) 0)).2.2.1≠0∨(putL key val f M (n.kids.getD (placeN n key) 0)).2.1=0 then(0,0,(putL key val f M (n.kids.getD (placeN n key) 0)).2.2.1,(putL key val f M (n.kids.getD (placeN n key) 0)).2.2.2) else splitB (putL key val f M (n.kids.getD (placeN n key) 0)).2.2.2 no (moreN n (placeN n key) (putL key val f M (n.kids.getD (placeN n key) 0)).1 (putL key val f M (n.kids.getD (placeN n key) 0)).2.1):=⟨_,rfl⟩
  rw[←hR]
  have HR:=Lib.hid hR
  clear hdn ih h hR
  go_enter Tryz.func56,Tryz.ntmps56
  go_wp2_with fail
  refine HRD.out.mono ?_
  rintro e w2 ⟨kv,vv,cv,rfl,ho,hp,hs⟩
  obtain⟨ka,kc,rfl⟩:=ho.i.ks.form
  obtain⟨va,vc,rfl⟩:=ho.i.vs.form
  obtain⟨ca,cc,rfl⟩:=ho.i.cs.form
  rw[World.size_alloc_eq] at ho
  have HO:=Lib.hid ho
  have HP2:=Lib.hid hp
  have HS2:=Lib.hid hs
  clear ho hp hs HRD
  unfold ndV
  by_cases her:er=0
  rotate_left
  ·have d2:(er != 0)=true:=by simpa using her
   have hq:R=(0,0,er,M):=by rw[HR.out,if_pos her]
   subst hq
   go_wp2_with (first|(refine wpList_store_node rfl (.tmp 12) (.tmp 25) rfl w2.heap.size n.leaf (.slice ka n.keys.length kc) (.slice va n.vals.length vc) (.slice ca n.kids.length cc) n (by first|rfl|exact hl) rfl rfl (node0_new w2) (by simp[Value.oneCell']) ?_;intro w3 hr3 t3;have HIN:=Lib.hid (InSt.of_read HO.out HP2.out (by omega) HXB.out HS2.out (Nat.le_refl _) hr3 (((Touch.refl [w2.heap.size] w2).alloc _).trans t3 (fun b hb=> .inl hb)));obtain⟨c0,c1,c2,c3⟩:=ndF_cells hr3;have HRP:=Lib.hid (HIN.out.sx.row HROP.out (by simp));clear hr3 t3)|(refine wpList_store_part rfl (.tmp 10) (.tmp 29) rfl w.heap.size 0 0 rfl rfl HRP.out ?_;intro w9 hr9 t9;have HR9:=Lib.hid hr9;have HT9:=Lib.hid t9;clear hr9 t9))
   refine bodyPost_ret_by (res_part2 Tryz.results56 rfl HR9.out) rfl ?_
   have HE:=pt_end HIN.out.pgX HIN.out.sx HT9.out HX.out hw (K:=K+30*(f+1)) (by omega)
   exact⟨rfl,HE.1,HE.2,by simp,by simp⟩
  subst her
  have hok:=HDN.out rfl
  have hq:=HR.out
  rw[if_neg (by simp)] at hq
  cases hl:n.leaf
  ·obtain⟨k1,k2,k3,k4⟩:=hok.forks hl
   rw[if_neg (by rw[hl];decide)] at hq
   have HPC:=fun(w':World) (h:NdI w' (.slice ka n.keys.length kc) (.slice va n.vals.length vc) (.slice ca n.kids.length cc) n)=>Lib.hid (place_any key h hok.pw (by omega))
   simp only[ndV,hl] at HPC
   have HPLE:=Lib.hid (placeN_le hok.pw key)
   obtain⟨P,hP⟩: ∃P,P=placeN n key:=⟨_,rfl⟩
   rw[←hP] at hq HPLE
   simp only[←hP] at HPC
   have HSHM:=fun(x y:Int) (hx:0≤x∧x≤18446744073709551615) (hy:0≤y∧y≤4294967295)=>Lib.hid (hok.sh.more (key:=x) (no:=y) hl (i:=P) HPLE.out hx hy)
   obtain⟨G,hG⟩: ∃G,G=putL key val f M (n.kids.getD P 0):=⟨_,rfl⟩
   rw[←hG] at hq
   have HPUT:=fun(w':World) (J:Nat) (Y:List Nat) (h:PgX w0 w' p J M Y) (hJ:J+30*f≤900000000000)=>Lib.hid (show Calls Tryz.prog 56 #[.pointer (some ⟨p,0,none⟩), .int .i64 (n.kids.getD P 0), .int .u64 key, .int .u64 val, .int .i64 (deep+1)] w' (PtPost w0 w' p (J+30*f) Y G) by rw[hG];exact(HIH w0 w' p J M Y).out h hJ (n.kids.getD P 0) (deep+1) (by omega))
   obtain⟨k6,n6,e6,M6⟩:=G
   simp only at hq
   have HQ0:=Lib.hid hq
   have HK2:=Lib.hid k2
   have HK3:=Lib.hid k3
   have hdl: -100000000000≤deep:=by omega
   clear hq hok k1 k2 k3 k4 hP hG HR HIH HDN
   go_wp2_with (refine wpList_store_node rfl (.tmp 12) (.tmp 25) rfl w2.heap.size false (.slice ka n.keys.length kc) (.slice va n.vals.length vc) (.slice ca n.kids.length cc) n (by first|rfl|exact hl) rfl rfl (node0_new w2) (by simp[Value.oneCell']) ?_;intro w3 hr3 t3;have HIN:=Lib.hid (InSt.of_read HO.out HP2.out (by omega) HXB.out HS2.out (Nat.le_refl _) hr3 (((Touch.refl [w2.heap.size] w2).alloc _).trans t3 (fun b hb=> .inl hb)));obtain⟨c0,c1,c2,c3⟩:=ndF_cells hr3;have HRP:=Lib.hid (HIN.out.sx.row HROP.out (by simp));clear hr3 t3)
   refine(HPC _ (HIN.out.nodeI n.leaf)).out.mono ?_
   rintro e w4 ⟨rfl,hd⟩
   have HI4:=Lib.hid (HIN.out.below hd)
   clear hd c0 c1 c2 c3 HPC HRP
   obtain⟨c0,c1,c2,c3⟩:=ndF_cells HI4.out.box
   have hcs:=HI4.out.cs
   obtain⟨g,cg,hv⟩:=ownsRow_form hcs (by have:=HK2.out;omega)
   injection hv with hva hvn hvc
   subst hva
   subst hvc
   obtain⟨-,hnc, -, -,ff,hff,hfx⟩:=ownsRow_rowIs hcs
   have hcc:=World.rowIs.cell hff (i:=P) (by have:=HK2.out;have:=HPLE.out;omega)
   have hfp:ff P= .int .i64 (n.kids.getD P 0):=by
    have:=hfx P (by have:=HK2.out;have:=HPLE.out;omega)
    rw[List.getElem?_map,getElem?_getD (by have:=HK2.out;have:=HPLE.out;omega)] at this
    simpa using this.symm
   rw[hfp] at hcc
   have y1:(P:Int)<(n.kids.length:Int):=by have:=HK2.out;have:=HPLE.out;omega
   clear hff hfx hcs hfp
   have HBL4:=Lib.hid (World.rowIs.lt HI4.out.box)
   go_wp2_with fail
   refine(HPUT _ _ _ HI4.out.pg (by omega)).out.mono ?_
   rintro e w6 ⟨rfl,hp6,hs6,hk6,hn6⟩
   have HI6:=Lib.hid (HI4.out.go hp6 hs6)
   have HSM:=HSHM k6 n6 hk6 hn6
   have HK6:=Lib.hid hk6
   have HN6:=Lib.hid hn6
   clear hp6 hs6 hk6 hn6 hcc c0 c1 c2 c3 HPUT HSHM
   by_cases he6:e6=0
   rotate_left
   ·have d6:(e6 != 0)=true:=by simpa using he6
    have hq:R=(0,0,e6,M6):=by rw[HQ0.out,if_pos (.inl he6)]
    clear HQ0
    subst hq
    go_wp2_with (first|(refine wpList_store_part rfl (.tmp 17) (.tmp 81) rfl w6.heap.size k6 n6 rfl rfl (ptF_new w6 0 0) ?_;intro w7 hr7 t7;have HB7:=Lib.hid ((((Touch.refl [w6.heap.size] w6).alloc _).trans t7 (fun b hb=> .inl hb)).below (Nat.le_refl _) (fun x hx=>by simp at hx;omega));have HI7:=Lib.hid (HI6.out.below HB7.out);have HR7:=Lib.hid hr7;obtain⟨m0,m1⟩:=ptF_cells hr7;obtain⟨c0,c1,c2,c3⟩:=ndF_cells HI7.out.box;have HRP:=Lib.hid (HI7.out.sx.row HROP.out (by simp));clear hr7 t7)|(refine wpList_store_part rfl (.tmp 10) (.tmp 90) rfl w.heap.size 0 0 rfl rfl HRP.out ?_;intro w9 hr9 t9;have HR9:=Lib.hid hr9;have HT9:=Lib.hid t9;clear hr9 t9))
    refine bodyPost_ret_by (res_part2 Tryz.results56 rfl HR9.out) rfl ?_
    have HE:=pt_end HI7.out.pgX HI7.out.sx HT9.out HX.out hw (K:=K+30*(f+1)) (by omega)
    exact⟨rfl,HE.1,HE.2,by simp,by simp⟩
   subst he6
   by_cases hn0:n6=0
   ·have hq:R=(0,0,0,M6):=by rw[HQ0.out,if_pos (.inr hn0)]
    clear HQ0
    subst hn0
    subst hq
    go_wp2_with (first|(refine wpList_store_part rfl (.tmp 17) (.tmp 81) rfl w6.heap.size k6 0 rfl rfl (ptF_new w6 0 0) ?_;intro w7 hr7 t7;have HB7:=Lib.hid ((((Touch.refl [w6.heap.size] w6).alloc _).trans t7 (fun b hb=> .inl hb)).below (Nat.le_refl _) (fun x hx=>by simp at hx;omega));have HI7:=Lib.hid (HI6.out.below HB7.out);have HR7:=Lib.hid hr7;obtain⟨m0,m1⟩:=ptF_cells hr7;obtain⟨c0,c1,c2,c3⟩:=ndF_cells HI7.out.box;have HRP:=Lib.hid (HI7.out.sx.row HROP.out (by simp));clear hr7 t7)|(refine wpList_store_part rfl (.tmp 10) (.tmp 90) rfl w.heap.size 0 0 rfl rfl HRP.out ?_;intro w9 hr9 t9;have HR9:=Lib.hid hr9;have HT9:=Lib.hid t9;clear hr9 t9))
    refine bodyPost_ret_by (res_part2 Tryz.results56 rfl HR9.out) rfl ?_
    have HE:=pt_end HI7.out.pgX HI7.out.sx HT9.out HX.out hw (K:=K+30*(f+1)) (by omega)
    exact⟨rfl,HE.1,HE.2,by simp,by simp⟩
   have d6:(n6==0)=false:=by simpa using hn0
   have HQ:=Lib.hid (show R=splitB M6 no (moreN n P k6 n6) by rw[HQ0.out,if_neg (by simp[hn0])])
   clear HQ0
   go_wp2_with (refine wpList_store_part rfl (.tmp 17) (.tmp 81) rfl w6.heap.size k6 n6 rfl rfl (ptF_new w6 0 0) ?_;intro w7 hr7 t7;have HB7:=Lib.hid ((((Touch.refl [w6.heap.size] w6).alloc _).trans t7 (fun b hb=> .inl hb)).below (Nat.le_refl _) (fun x hx=>by simp at hx;omega));have HI7:=Lib.hid (HI6.out.below HB7.out);have HR7:=Lib.hid hr7;obtain⟨m0,m1⟩:=ptF_cells hr7;obtain⟨c0,c1,c2,c3⟩:=ndF_cells HI7.out.box;have HRP:=Lib.hid (HI7.out.sx.row HROP.out (by simp));clear hr7 t7)
   have hS:(fun w':World=>w'.cell? ⟨w2.heap.size,1,none⟩=some (.slice ka n.keys.length kc)∧w'.cell? ⟨w2.heap.size,3,none⟩=some (.slice (some ⟨g,0,none⟩) n.kids.length cc)∧w'.cell? ⟨w6.heap.size,0,none⟩=some (.int .u64 k6)∧w'.cell? ⟨w6.heap.size,1,none⟩=some (.int .i64 n6)) w7.drew:=⟨c1,c3,m0,m1⟩
   have HS0:=Lib.hid hS
   clear hS
   go_upto_region 16 with (fail)
   have HS7:=Lib.hid HI7.out.sx
   go_cut [108] (fun _ wx=>InsSt w0 (w.alloc (.cells #[.int .u64 0, .int .i64 0] 111)) wx p (K+4+30*f) M6 (w.heap.size::X) w2.heap.size (w.heap.size+1) ⟨false,n.keys.insertIdx P k6,n.vals,n.kids.insertIdx (P+1) n6⟩)
   case rest=>
    have hq:R=splitB M6 no ⟨false,n.keys.insertIdx P k6,n.vals,n.kids.insertIdx (P+1) n6⟩:=by rw[HQ.out, ←hl];rfl
    obtain⟨aK,cK,aV,cV,aC,cC,hI⟩:=hcut
    have HIF:=Lib.hid hI
    clear hI
    obtain⟨c0,c1,c2,c3⟩:=ndF_cells HIF.out.box
    have hsh:NdSh (⟨false,n.keys.insertIdx P k6,n.vals,n.kids.insertIdx (P+1) n6⟩:ND) 41:=(by have hz:=HSM.out;unfold moreN at hz;rw[hl] at hz;exact hz)
    have hbd:=split_bd (no:=no) HIF.out.pg hsh
    have HSP:=split_any (no:=no) HIF.out.pg (by omega) (HIF.out.nodeI false) hsh (by omega) (fun g hg=>by simp[hg])
    generalize splitB M6 no (⟨false,n.keys.insertIdx P k6,n.vals,n.kids.insertIdx (P+1) n6⟩:ND)=G at hbd HSP hq
    obtain⟨k5,no5,er5,M5⟩:=G
    simp only at hbd HSP
    unfold ndV at HSP
    have HBD:=Lib.hid hbd
    have HQ2:=Lib.hid hq
    have HSP:=Lib.hid HSP
    clear hsh hbd hq
    go_wp2_with fail
    refine HSP.out.mono ?_
    rintro e w5 ⟨rfl,hp5,hs5⟩
    have HP5:=Lib.hid hp5
    have HS5:=Lib.hid hs5
    have HRP:=Lib.hid (hs5.row (HIF.out.sx.row HROP.out (by simp)) (by simp))
    clear hp5 hs5 c0 c1 c2 c3
    go_wp2_with (refine wpList_store_part rfl (.tmp 10) (.tmp 113) rfl w.heap.size k5 no5 rfl rfl HRP.out ?_;intro w9 hr9 t9;have HR9:=Lib.hid hr9;have HT9:=Lib.hid t9;clear hr9 t9)
    refine bodyPost_ret_by (res_part2 Tryz.results56 rfl HR9.out) rfl ?_
    have HE:=pt_end (HP5.out.sub (fun y hy=>by simp at hy ⊢;rcases hy with hy|hy<;>simp[hy])) (HIF.out.sx.trans (HS5.out.sub (fun y hy=>by simp at hy ⊢;rcases hy with hy|hy<;>simp[hy]))) HT9.out HX.out hw (K:=K+30*(f+1)) (by omega)
    rw[HQ2.out]
    exact⟨rfl,HE.1,HE.2,HBD.out⟩
   go_wp2_with fail
   refine wp_region_noPanic ?_
   refine wp_region_par3 17 16 (by kernel_rfl) (by kernel_rfl) (by simp) (by omega) (by kernel_rfl) (by kernel_rfl) (fun w':World=>w'.cell? ⟨w2.heap.size,1,none⟩=some (.slice ka n.keys.length kc)∧w'.cell? ⟨w2.heap.size,3,none⟩=some (.slice (some ⟨g,0,none⟩) n.kids.length cc)∧w'.cell? ⟨w6.heap.size,0,none⟩=some (.int .u64 k6)∧w'.cell? ⟨w6.heap.size,1,none⟩=some (.int .i64 n6)) ?_
   refine par3_move (v:= ?_) 0 (by simp only[zga,zgb,zgc];rfl) (by kernel_rfl) (by rfl) ?_ (fun _ _ _ h=>h) ?_
   rotate_left
   ·(intro w9;go_simp;try with_reducible rfl)
   simp only[Act.put,zpa,zpb,zpc]
   refine par3_read (v:= ?_) 1 (by simp only[zga,zgb,zgc];rfl) (by kernel_rfl) (by rfl) HS0.out ?_ (fun _ _ _ h=>h) ?_
   rotate_left
   ·(intro w9 hSw;(try dsimp only at hSw);go_simp;try with_reducible rfl)
   simp only[Act.put,zpa,zpb,zpc]
   refine par3_move (v:= ?_) 2 (by simp only[zga,zgb,zgc];rfl) (by kernel_rfl) (by rfl) ?_ (fun _ _ _ h=>h) ?_
   rotate_left
   ·(intro w9;go_simp;try with_reducible rfl)
   simp only[Act.put,zpa,zpb,zpc]
   refine par3_move (v:= ?_) 3 (by simp only[zga,zgb,zgc];rfl) (by kernel_rfl) (by rfl) ?_ (fun _ _ _ h=>h) ?_
   rotate_left
   ·(intro w9;go_simp;try with_reducible rfl)
   simp only[Act.put,zpa,zpb,zpc]
   refine par3_read (v:= ?_) 4 (by simp only[zga,zgb,zgc];rfl) (by kernel_rfl) (by rfl) HS0.out ?_ (fun _ _ _ h=>h) ?_
   rotate_left
   ·(intro w9 hSw;(try dsimp only at hSw);go_simp;try with_reducible rfl)
   simp only[Act.put,zpa,zpb,zpc]
   refine par3_move (v:= ?_) 7 (by simp only[zga,zgb,zgc];rfl) (by kernel_rfl) (by rfl) ?_ (fun _ _ _ h=>h) ?_
   rotate_left
   ·(intro w9;go_simp;try with_reducible rfl)
   simp only[Act.put,zpa,zpb,zpc]
   refine par3_read (v:= ?_) 8 (by simp only[zga,zgb,zgc];rfl) (by kernel_rfl) (by rfl) HS0.out ?_ (fun _ _ _ h=>h) ?_
   rotate_left
   ·(intro w9 hSw;(try dsimp only at hSw);go_simp;try with_reducible rfl)
   simp only[Act.put,zpa,zpb,zpc]
   refine par3_move (v:= ?_) 9 (by simp only[zga,zgb,zgc];rfl) (by kernel_rfl) (by rfl) ?_ (fun _ _ _ h=>h) ?_
   rotate_left
   ·(intro w9;go_simp;try with_reducible rfl)
   simp only[Act.put,zpa,zpb,zpc]
   refine par3_move (v:= .int .i64 ((P+1:Nat):Int)) 10 (by simp only[zga,zgb,zgc];rfl) (by kernel_rfl) (by rfl) ?_ (fun _ _ _ h=>h) ?_
   ·intro w9
    have hw1:IntKind.i64.wrap ((P:Int)+1)=((P+1:Nat):Int):=by rw[IntWalk.i64_in _ (by have:=HPLE.out;have:=HK3.out;omega)];omega
    go_simp
    first|done|(rw[hw1];done)|(simp[hw1];done)|trace_state
   simp only[Act.put,zpa,zpb,zpc]
   refine par3_move (v:= ?_) 11 (by simp only[zga,zgb,zgc];rfl) (by kernel_rfl) (by rfl) ?_ (fun _ _ _ h=>h) ?_
   rotate_left
   ·(intro w9;go_simp;try with_reducible rfl)
   simp only[Act.put,zpa,zpb,zpc]
   refine par3_read (v:= ?_) 12 (by simp only[zga,zgb,zgc];rfl) (by kernel_rfl) (by rfl) HS0.out ?_ (fun _ _ _ h=>h) ?_
   rotate_left
   ·(intro w9 hSw;(try dsimp only at hSw);go_simp;try with_reducible rfl)
   simp only[Act.put,zpa,zpb,zpc]
   refine par3_name (fun W8 hW8=> ?_)
   have HI8:=Lib.hid (show InSt w0 _ W8 p (K+4+30*f) M6 (w6.heap.size::w.heap.size::X) w2.heap.size (w.heap.size+1) _ _ _ _ _ _ _ by rw[hW8];exact(HI6.out.rebase HB7.out (Nat.le_refl _) (World.rowIs.lt HR7.out)).below ((Touch.refl [] w7).drew.below (Nat.le_refl _) (by simp)))
   have HZ8:=Lib.hid (show w7.heap.size≤W8.heap.size by rw[hW8];exact Nat.le_refl _)
   have HBX:=Lib.hid (show w.heap.size+1≤w2.heap.size by have:=HS2.out.size;rw[World.size_alloc_eq] at this;exact this)
   have HBL:=Lib.hid (World.rowIs.lt HI7.out.box)
   have HLTK:=Lib.hid (fun b (e:(Value.slice ka n.keys.length kc).ownBlock=some b)=>(HI7.out.ks.lt b e).2)
   have HLTC:=Lib.hid (fun b (e:(Value.slice (some ⟨g,0,none⟩) n.kids.length cc).ownBlock=some b)=>(HI7.out.cs.lt b e).2)
   clear hW8 c0 c1 c2 c3 m0 m1
   refine par3_two 5 13 (by simp only[zga,zgb,zgc];rfl) (by simp only[zga,zgb,zgc];rfl) (by kernel_rfl) (by rfl) (by rfl) ?_ ?_
   ·have HIn:=Lib.hid (HI8.out.below (below_alloc (o:= .cells #[.int .u64 k6] 28) (Below.refl _ _)))
    have HV1:=Lib.hid (VecSt.new (s:=w7.heap.size) (W:=W8) 28 (.int .u64 k6) HZ8.out)
    refine owp_val (v:= ?_) (w1:= ?_) ?_ ?_
    rotate_left 2
    ·(go_simp;constructor<;>rfl)
    refine⟨fun s _=>⟨(World.rowIs.cell HIn.out.box (i:=1) (by decide)).trans ((World.rowIs.cell HI8.out.box (i:=1) (by decide)).symm.trans s.1),(World.rowIs.cell HIn.out.box (i:=3) (by decide)).trans ((World.rowIs.cell HI8.out.box (i:=3) (by decide)).symm.trans s.2.1),(HIn.out.sx.cell (by simp)).trans ((HI8.out.sx.cell (by simp)).symm.trans s.2.2.1),(HIn.out.sx.cell (by simp)).trans ((HI8.out.sx.cell (by simp)).symm.trans s.2.2.2)⟩, ?_⟩
    simp only[Act.put,zpa,zpb,zpc]
    have HZ9:=Lib.hid (show w7.heap.size≤(W8.alloc (.cells #[.int .u64 k6] 28)).heap.size by have:=HZ8.out;rw[World.size_alloc_eq];omega)
    refine par3_name (fun W9 hW=> ?_)
    rw[←hW] at HIn HZ9 HV1
    have HI9:=HIn
    clear hW HI8 HZ8
    refine par3_two 6 13 (by simp only[zga,zgb,zgc];rfl) (by simp only[zga,zgb,zgc];rfl) (by kernel_rfl) (by rfl) (by rfl) ?_ ?_
    ·refine owp_call (by go_simp;constructor<;>rfl) ?_
     refine(insU_any HI9.out.ks (by have:=World.rowIs.lt HI9.out.box;have:=HBX.out;omega) (show P≤n.keys.length by have:=HPLE.out;have:=HK2.out;omega) (by have:=HK2.out;have:=HK3.out;omega) HV1.out.at_ (fun e=>by have:=HLTK.out _ e;have:=HV1.out.ge;omega)).mono ?_
     rintro e W10 ⟨vK,rfl,ho,t,hn⟩
     have HIn:=Lib.hid (HI9.out.newK (l':=(n.keys.insertIdx P k6)) (by rw[List.length_insertIdx_of_le_length (by have:=HPLE.out;have:=HK2.out;omega)];exact ho) t hn)
     (have HZ10:=Lib.hid (Nat.le_trans HZ9.out t.size))
     have hf: ∃a c,vK= .slice a ((n.keys.insertIdx P k6)).length c:=((HIn.out.nodeI false).ks).form
     obtain⟨aK,cK,rfl⟩:=hf
     refine⟨_,rfl,fun s _=>⟨(World.rowIs.cell HIn.out.box (i:=1) (by decide)).trans ((World.rowIs.cell HI9.out.box (i:=1) (by decide)).symm.trans s.1),(World.rowIs.cell HIn.out.box (i:=3) (by decide)).trans ((World.rowIs.cell HI9.out.box (i:=3) (by decide)).symm.trans s.2.1),(HIn.out.sx.cell (by simp)).trans ((HI9.out.sx.cell (by simp)).symm.trans s.2.2.1),(HIn.out.sx.cell (by simp)).trans ((HI9.out.sx.cell (by simp)).symm.trans s.2.2.2)⟩, ?_⟩
     clear ho t hn
     simp only[Act.put,zpa,zpb,zpc]
     have HI10:=HIn
     clear HI9 HZ9 HV1
     refine par3_move (v:= ?_) 15 (by simp only[zga,zgb,zgc];rfl) (by kernel_rfl) (by rfl) ?_ (fun _ _ _ h=>h) ?_
     rotate_left
     ·(intro w9;go_simp;try with_reducible rfl)
     simp only[Act.put,zpa,zpb,zpc]
     refine par3_one 13 (by simp only[zga,zgb,zgc];rfl) (by kernel_rfl) (by rfl) ?_
     have HIn:=Lib.hid (HI10.out.below (below_alloc (o:= .cells #[.int .i64 n6] 3) (Below.refl _ _)))
     have HV2:=Lib.hid (VecSt.new (s:=w7.heap.size) (W:=W10) 3 (.int .i64 n6) HZ10.out)
     refine owp_val (v:= ?_) (w1:= ?_) ?_ ?_
     rotate_left 2
     ·(go_simp;constructor<;>rfl)
     refine⟨fun s _=>⟨(World.rowIs.cell HIn.out.box (i:=1) (by decide)).trans ((World.rowIs.cell HI10.out.box (i:=1) (by decide)).symm.trans s.1),(World.rowIs.cell HIn.out.box (i:=3) (by decide)).trans ((World.rowIs.cell HI10.out.box (i:=3) (by decide)).symm.trans s.2.1),(HIn.out.sx.cell (by simp)).trans ((HI10.out.sx.cell (by simp)).symm.trans s.2.2.1),(HIn.out.sx.cell (by simp)).trans ((HI10.out.sx.cell (by simp)).symm.trans s.2.2.2)⟩, ?_⟩
     simp only[Act.put,zpa,zpb,zpc]
     have HZ11:=Lib.hid (show w7.heap.size≤(W10.alloc (.cells #[.int .i64 n6] 3)).heap.size by have:=HZ10.out;rw[World.size_alloc_eq];omega)
     refine par3_name (fun W11 hW=> ?_)
     rw[←hW] at HIn HZ11 HV2
     have HI11:=HIn
     clear hW HI10 HZ10
     refine par3_one 14 (by simp only[zga,zgb,zgc];rfl) (by kernel_rfl) (by rfl) ?_
     refine owp_call (by go_simp;constructor<;>rfl) ?_
     refine(insI_any HI11.out.cs (by have:=World.rowIs.lt HI11.out.box;have:=HBX.out;omega) (show(P+1)≤n.kids.length by have:=HPLE.out;have:=HK2.out;omega) (by have:=HK2.out;have:=HK3.out;omega) HV2.out.at_ (fun e=>by have:=HLTC.out _ e;have:=HV2.out.ge;omega)).mono ?_
     rintro e W12 ⟨vC,rfl,ho,t,hn⟩
     have HIn:=Lib.hid (HI11.out.newC (l':=(n.kids.insertIdx (P+1) n6)) (by rw[List.length_insertIdx_of_le_length (by have:=HPLE.out;have:=HK2.out;omega)];exact ho) t hn)
     (have HZ12:=Lib.hid (Nat.le_trans HZ11.out t.size))
     have hf: ∃a c,vC= .slice a ((n.kids.insertIdx (P+1) n6)).length c:=((HIn.out.nodeI false).cs).form
     obtain⟨aC,cC,rfl⟩:=hf
     refine⟨_,rfl,fun s _=>⟨(World.rowIs.cell HIn.out.box (i:=1) (by decide)).trans ((World.rowIs.cell HI11.out.box (i:=1) (by decide)).symm.trans s.1),(World.rowIs.cell HIn.out.box (i:=3) (by decide)).trans ((World.rowIs.cell HI11.out.box (i:=3) (by decide)).symm.trans s.2.1),(HIn.out.sx.cell (by simp)).trans ((HI11.out.sx.cell (by simp)).symm.trans s.2.2.1),(HIn.out.sx.cell (by simp)).trans ((HI11.out.sx.cell (by simp)).symm.trans s.2.2.2)⟩, ?_⟩
     clear ho t hn
     simp only[Act.put,zpa,zpb,zpc]
     have HI12:=HIn
     clear HI11 HZ11 HV2
     refine par3_one 16 (by simp only[zga,zgb,zgc];rfl) (by kernel_rfl) (by rfl) ?_
     have hc:=World.rowIs.cell HI12.out.box (i:=1) (by decide)
     have hz:=World.rowIs.frozen HI12.out.box 1
     have hr:=HI12.out.box.set 1 (.slice aK (n.keys.insertIdx P k6).length cK)
     have HIn:=Lib.hid (HI12.out.set ((Touch.refl [w2.heap.size] W12).setCell (p:=⟨w2.heap.size,1,none⟩) (.inl (by simp)) (.slice aK (n.keys.insertIdx P k6).length cK)) hr)
     refine owp_skip (w1:= ?_) ?_ ?_
     rotate_left
     ·(go_simp;first|rfl|(constructor<;>rfl))
     refine⟨fun _ h=>absurd h (by decide), ?_⟩
     clear hc hz hr
     simp only[Act.put,zpa,zpb,zpc]
     have HZ13:=Lib.hid (Nat.le_trans HZ12.out ((Touch.refl [w2.heap.size] W12).setCell (p:=⟨w2.heap.size,1,none⟩) (.inl (by simp)) (.slice aK (n.keys.insertIdx P k6).length cK)).size)
     refine par3_name (fun W13 hW=> ?_)
     rw[←hW] at HIn HZ13
     have HI13:=HIn
     clear hW HI12 HZ12
     refine par3_tail _ (by simp only[List.drop_succ_cons,List.drop_zero];rfl) (by kernel_rfl) ?_
     skip
     have c3:=World.rowIs.cell HI13.out.box (i:=3) (by decide)
     have fz:=World.rowIs.frozen HI13.out.box
     go_wp2_with fail
     refine NoPanic.normal ?_
     go_step
     go_step
     go_meet
     have hIF:=(HI13.out.set ((Touch.refl [w2.heap.size] W13).setCell (p:=⟨w2.heap.size,3,none⟩) (.inl (by simp)) (.slice aC (n.kids.insertIdx (P+1) n6).length cC)) (HI13.out.box.set 3 (.slice aC (n.kids.insertIdx (P+1) n6).length cC))).unbase HS7.out
     exact⟨aK,cK,va,vc,aC,cC,ndSt_congr hIF (fun i hi=>by rcases i with _|_|_|_|i<;>first|rfl|exact congrArg Value.bool hl|(exfalso;omega))⟩
    ·have HIn:=Lib.hid (HI9.out.below (below_alloc (o:= .cells #[.int .i64 n6] 3) (Below.refl _ _)))
     have HV2:=Lib.hid (VecSt.new (s:=w7.heap.size) (W:=W9) 3 (.int .i64 n6) HZ9.out)
     refine owp_val (v:= ?_) (w1:= ?_) ?_ ?_
     rotate_left 2
     ·(go_simp;constructor<;>rfl)
     refine⟨fun s _=>⟨(World.rowIs.cell HIn.out.box (i:=1) (by decide)).trans ((World.rowIs.cell HI9.out.box (i:=1) (by decide)).symm.trans s.1),(World.rowIs.cell HIn.out.box (i:=3) (by decide)).trans ((World.rowIs.cell HI9.out.box (i:=3) (by decide)).symm.trans s.2.1),(HIn.out.sx.cell (by simp)).trans ((HI9.out.sx.cell (by simp)).symm.trans s.2.2.1),(HIn.out.sx.cell (by simp)).trans ((HI9.out.sx.cell (by simp)).symm.trans s.2.2.2)⟩, ?_⟩
     simp only[Act.put,zpa,zpb,zpc]
     have HV1:=Lib.hid (HV1.out.touch (F:=[]) ((Touch.refl [] W9).alloc (.cells #[.int .i64 n6] 3)) (by simp))
     have HZ10:=Lib.hid (show w7.heap.size≤(W9.alloc (.cells #[.int .i64 n6] 3)).heap.size by have:=HZ9.out;rw[World.size_alloc_eq];omega)
     refine par3_name (fun W10 hW=> ?_)
     rw[←hW] at HIn HZ10 HV2 HV1
     have HI10:=HIn
     clear hW HI9 HZ9
     refine par3_one 6 (by simp only[zga,zgb,zgc];rfl) (by kernel_rfl) (by rfl) ?_
     refine owp_call (by go_simp;constructor<;>rfl) ?_
     refine(insU_any HI10.out.ks (by have:=World.rowIs.lt HI10.out.box;have:=HBX.out;omega) (show P≤n.keys.length by have:=HPLE.out;have:=HK2.out;omega) (by have:=HK2.out;have:=HK3.out;omega) HV1.out.at_ (fun e=>by have:=HLTK.out _ e;have:=HV1.out.ge;omega)).mono ?_
     rintro e W11 ⟨vK,rfl,ho,t,hn⟩
     have HIn:=Lib.hid (HI10.out.newK (l':=(n.keys.insertIdx P k6)) (by rw[List.length_insertIdx_of_le_length (by have:=HPLE.out;have:=HK2.out;omega)];exact ho) t hn)
     (have HZ11:=Lib.hid (Nat.le_trans HZ10.out t.size);have HV2:=Lib.hid (HV2.out.touch t (fun hm=>by rw[blkOf_own HI10.out.ks,Option.mem_toList] at hm;have:=HLTK.out _ hm;have:=HV2.out.ge;omega)))
     have hf: ∃a c,vK= .slice a ((n.keys.insertIdx P k6)).length c:=((HIn.out.nodeI false).ks).form
     obtain⟨aK,cK,rfl⟩:=hf
     refine⟨_,rfl,fun s _=>⟨(World.rowIs.cell HIn.out.box (i:=1) (by decide)).trans ((World.rowIs.cell HI10.out.box (i:=1) (by decide)).symm.trans s.1),(World.rowIs.cell HIn.out.box (i:=3) (by decide)).trans ((World.rowIs.cell HI10.out.box (i:=3) (by decide)).symm.trans s.2.1),(HIn.out.sx.cell (by simp)).trans ((HI10.out.sx.cell (by simp)).symm.trans s.2.2.1),(HIn.out.sx.cell (by simp)).trans ((HI10.out.sx.cell (by simp)).symm.trans s.2.2.2)⟩, ?_⟩
     clear ho t hn
     simp only[Act.put,zpa,zpb,zpc]
     have HI11:=HIn
     clear HI10 HZ10 HV1
     refine par3_move (v:= ?_) 15 (by simp only[zga,zgb,zgc];rfl) (by kernel_rfl) (by rfl) ?_ (fun _ _ _ h=>h) ?_
     rotate_left
     ·(intro w9;go_simp;try with_reducible rfl)
     simp only[Act.put,zpa,zpb,zpc]
     refine par3_one 14 (by simp only[zga,zgb,zgc];rfl) (by kernel_rfl) (by rfl) ?_
     refine owp_call (by go_simp;constructor<;>rfl) ?_
     refine(insI_any HI11.out.cs (by have:=World.rowIs.lt HI11.out.box;have:=HBX.out;omega) (show(P+1)≤n.kids.length by have:=HPLE.out;have:=HK2.out;omega) (by have:=HK2.out;have:=HK3.out;omega) HV2.out.at_ (fun e=>by have:=HLTC.out _ e;have:=HV2.out.ge;omega)).mono ?_
     rintro e W12 ⟨vC,rfl,ho,t,hn⟩
     have HIn:=Lib.hid (HI11.out.newC (l':=(n.kids.insertIdx (P+1) n6)) (by rw[List.length_insertIdx_of_le_length (by have:=HPLE.out;have:=HK2.out;omega)];exact ho) t hn)
     (have HZ12:=Lib.hid (Nat.le_trans HZ11.out t.size))
     have hf: ∃a c,vC= .slice a ((n.kids.insertIdx (P+1) n6)).length c:=((HIn.out.nodeI false).cs).form
     obtain⟨aC,cC,rfl⟩:=hf
     refine⟨_,rfl,fun s _=>⟨(World.rowIs.cell HIn.out.box (i:=1) (by decide)).trans ((World.rowIs.cell HI11.out.box (i:=1) (by decide)).symm.trans s.1),(World.rowIs.cell HIn.out.box (i:=3) (by decide)).trans ((World.rowIs.cell HI11.out.box (i:=3) (by decide)).symm.trans s.2.1),(HIn.out.sx.cell (by simp)).trans ((HI11.out.sx.cell (by simp)).symm.trans s.2.2.1),(HIn.out.sx.cell (by simp)).trans ((HI11.out.sx.cell (by simp)).symm.trans s.2.2.2)⟩, ?_⟩
     clear ho t hn
     simp only[Act.put,zpa,zpb,zpc]
     have HI12:=HIn
     clear HI11 HZ11 HV2
     refine par3_one 16 (by simp only[zga,zgb,zgc];rfl) (by kernel_rfl) (by rfl) ?_
     have hc:=World.rowIs.cell HI12.out.box (i:=1) (by decide)
     have hz:=World.rowIs.frozen HI12.out.box 1
     have hr:=HI12.out.box.set 1 (.slice aK (n.keys.insertIdx P k6).length cK)
     have HIn:=Lib.hid (HI12.out.set ((Touch.refl [w2.heap.size] W12).setCell (p:=⟨w2.heap.size,1,none⟩) (.inl (by simp)) (.slice aK (n.keys.insertIdx P k6).length cK)) hr)
     refine owp_skip (w1:= ?_) ?_ ?_
     rotate_left
     ·(go_simp;first|rfl|(constructor<;>rfl))
     refine⟨fun _ h=>absurd h (by decide), ?_⟩
     clear hc hz hr
     simp only[Act.put,zpa,zpb,zpc]
     have HZ13:=Lib.hid (Nat.le_trans HZ12.out ((Touch.refl [w2.heap.size] W12).setCell (p:=⟨w2.heap.size,1,none⟩) (.inl (by simp)) (.slice aK (n.keys.insertIdx P k6).length cK)).size)
     refine par3_name (fun W13 hW=> ?_)
     rw[←hW] at HIn HZ13
     have HI13:=HIn
     clear hW HI12 HZ12
     refine par3_tail _ (by simp only[List.drop_succ_cons,List.drop_zero];rfl) (by kernel_rfl) ?_
     skip
     have c3:=World.rowIs.cell HI13.out.box (i:=3) (by decide)
     have fz:=World.rowIs.frozen HI13.out.box
     go_wp2_with fail
     refine NoPanic.normal ?_
     go_step
     go_step
     go_meet
     have hIF:=(HI13.out.set ((Touch.refl [w2.heap.size] W13).setCell (p:=⟨w2.heap.size,3,none⟩) (.inl (by simp)) (.slice aC (n.kids.insertIdx (P+1) n6).length cC)) (HI13.out.box.set 3 (.slice aC (n.kids.insertIdx (P+1) n6).length cC))).unbase HS7.out
     exact⟨aK,cK,va,vc,aC,cC,ndSt_congr hIF (fun i hi=>by rcases i with _|_|_|_|i<;>first|rfl|exact congrArg Value.bool hl|(exfalso;omega))⟩
   ·have HIn:=Lib.hid (HI8.out.below (below_alloc (o:= .cells #[.int .i64 n6] 3) (Below.refl _ _)))
    have HV2:=Lib.hid (VecSt.new (s:=w7.heap.size) (W:=W8) 3 (.int .i64 n6) HZ8.out)
    refine owp_val (v:= ?_) (w1:= ?_) ?_ ?_
    rotate_left 2
    ·(go_simp;constructor<;>rfl)
    refine⟨fun s _=>⟨(World.rowIs.cell HIn.out.box (i:=1) (by decide)).trans ((World.rowIs.cell HI8.out.box (i:=1) (by decide)).symm.trans s.1),(World.rowIs.cell HIn.out.box (i:=3) (by decide)).trans ((World.rowIs.cell HI8.out.box (i:=3) (by decide)).symm.trans s.2.1),(HIn.out.sx.cell (by simp)).trans ((HI8.out.sx.cell (by simp)).symm.trans s.2.2.1),(HIn.out.sx.cell (by simp)).trans ((HI8.out.sx.cell (by simp)).symm.trans s.2.2.2)⟩, ?_⟩
    simp only[Act.put,zpa,zpb,zpc]
    have HZ9:=Lib.hid (show w7.heap.size≤(W8.alloc (.cells #[.int .i64 n6] 3)).heap.size by have:=HZ8.out;rw[World.size_alloc_eq];omega)
    refine par3_name (fun W9 hW=> ?_)
    rw[←hW] at HIn HZ9 HV2
    have HI9:=HIn
    clear hW HI8 HZ8
    refine par3_one 5 (by simp only[zga,zgb,zgc];rfl) (by kernel_rfl) (by rfl) ?_
    have HIn:=Lib.hid (HI9.out.below (below_alloc (o:= .cells #[.int .u64 k6] 28) (Below.refl _ _)))
    have HV1:=Lib.hid (VecSt.new (s:=w7.heap.size) (W:=W9) 28 (.int .u64 k6) HZ9.out)
    refine owp_val (v:= ?_) (w1:= ?_) ?_ ?_
    rotate_left 2
    ·(go_simp;constructor<;>rfl)
    refine⟨fun s _=>⟨(World.rowIs.cell HIn.out.box (i:=1) (by decide)).trans ((World.rowIs.cell HI9.out.box (i:=1) (by decide)).symm.trans s.1),(World.rowIs.cell HIn.out.box (i:=3) (by decide)).trans ((World.rowIs.cell HI9.out.box (i:=3) (by decide)).symm.trans s.2.1),(HIn.out.sx.cell (by simp)).trans ((HI9.out.sx.cell (by simp)).symm.trans s.2.2.1),(HIn.out.sx.cell (by simp)).trans ((HI9.out.sx.cell (by simp)).symm.trans s.2.2.2)⟩, ?_⟩
    simp only[Act.put,zpa,zpb,zpc]
    have HV2:=Lib.hid (HV2.out.touch (F:=[]) ((Touch.refl [] W9).alloc (.cells #[.int .u64 k6] 28)) (by simp))
    have HZ10:=Lib.hid (show w7.heap.size≤(W9.alloc (.cells #[.int .u64 k6] 28)).heap.size by have:=HZ9.out;rw[World.size_alloc_eq];omega)
    refine par3_name (fun W10 hW=> ?_)
    rw[←hW] at HIn HZ10 HV1 HV2
    have HI10:=HIn
    clear hW HI9 HZ9
    refine par3_one 6 (by simp only[zga,zgb,zgc];rfl) (by kernel_rfl) (by rfl) ?_
    refine owp_call (by go_simp;constructor<;>rfl) ?_
    refine(insU_any HI10.out.ks (by have:=World.rowIs.lt HI10.out.box;have:=HBX.out;omega) (show P≤n.keys.length by have:=HPLE.out;have:=HK2.out;omega) (by have:=HK2.out;have:=HK3.out;omega) HV1.out.at_ (fun e=>by have:=HLTK.out _ e;have:=HV1.out.ge;omega)).mono ?_
    rintro e W11 ⟨vK,rfl,ho,t,hn⟩
    have HIn:=Lib.hid (HI10.out.newK (l':=(n.keys.insertIdx P k6)) (by rw[List.length_insertIdx_of_le_length (by have:=HPLE.out;have:=HK2.out;omega)];exact ho) t hn)
    (have HZ11:=Lib.hid (Nat.le_trans HZ10.out t.size);have HV2:=Lib.hid (HV2.out.touch t (fun hm=>by rw[blkOf_own HI10.out.ks,Option.mem_toList] at hm;have:=HLTK.out _ hm;have:=HV2.out.ge;omega)))
    have hf: ∃a c,vK= .slice a ((n.keys.insertIdx P k6)).length c:=((HIn.out.nodeI false).ks).form
    obtain⟨aK,cK,rfl⟩:=hf
    refine⟨_,rfl,fun s _=>⟨(World.rowIs.cell HIn.out.box (i:=1) (by decide)).trans ((World.rowIs.cell HI10.out.box (i:=1) (by decide)).symm.trans s.1),(World.rowIs.cell HIn.out.box (i:=3) (by decide)).trans ((World.rowIs.cell HI10.out.box (i:=3) (by decide)).symm.trans s.2.1),(HIn.out.sx.cell (by simp)).trans ((HI10.out.sx.cell (by simp)).symm.trans s.2.2.1),(HIn.out.sx.cell (by simp)).trans ((HI10.out.sx.cell (by simp)).symm.trans s.2.2.2)⟩, ?_⟩
    clear ho t hn
    simp only[Act.put,zpa,zpb,zpc]
    have HI11:=HIn
    clear HI10 HZ10 HV1
    refine par3_move (v:= ?_) 15 (by simp only[zga,zgb,zgc];rfl) (by kernel_rfl) (by rfl) ?_ (fun _ _ _ h=>h) ?_
    rotate_left
    ·(intro w9;go_simp;try with_reducible rfl)
    simp only[Act.put,zpa,zpb,zpc]
    refine par3_one 14 (by simp only[zga,zgb,zgc];rfl) (by kernel_rfl) (by rfl) ?_
    refine owp_call (by go_simp;constructor<;>rfl) ?_
    refine(insI_any HI11.out.cs (by have:=World.rowIs.lt HI11.out.box;have:=HBX.out;omega) (show(P+1)≤n.kids.length by have:=HPLE.out;have:=HK2.out;omega) (by have:=HK2.out;have:=HK3.out;omega) HV2.out.at_ (fun e=>by have:=HLTC.out _ e;have:=HV2.out.ge;omega)).mono ?_
    rintro e W12 ⟨vC,rfl,ho,t,hn⟩
    have HIn:=Lib.hid (HI11.out.newC (l':=(n.kids.insertIdx (P+1) n6)) (by rw[List.length_insertIdx_of_le_length (by have:=HPLE.out;have:=HK2.out;omega)];exact ho) t hn)
    (have HZ12:=Lib.hid (Nat.le_trans HZ11.out t.size))
    have hf: ∃a c,vC= .slice a ((n.kids.insertIdx (P+1) n6)).length c:=((HIn.out.nodeI false).cs).form
    obtain⟨aC,cC,rfl⟩:=hf
    refine⟨_,rfl,fun s _=>⟨(World.rowIs.cell HIn.out.box (i:=1) (by decide)).trans ((World.rowIs.cell HI11.out.box (i:=1) (by decide)).symm.trans s.1),(World.rowIs.cell HIn.out.box (i:=3) (by decide)).trans ((World.rowIs.cell HI11.out.box (i:=3) (by decide)).symm.trans s.2.1),(HIn.out.sx.cell (by simp)).trans ((HI11.out.sx.cell (by simp)).symm.trans s.2.2.1),(HIn.out.sx.cell (by simp)).trans ((HI11.out.sx.cell (by simp)).symm.trans s.2.2.2)⟩, ?_⟩
    clear ho t hn
    simp only[Act.put,zpa,zpb,zpc]
    have HI12:=HIn
    clear HI11 HZ11 HV2
    refine par3_one 16 (by simp only[zga,zgb,zgc];rfl) (by kernel_rfl) (by rfl) ?_
    have hc:=World.rowIs.cell HI12.out.box (i:=1) (by decide)
    have hz:=World.rowIs.frozen HI12.out.box 1
    have hr:=HI12.out.box.set 1 (.slice aK (n.keys.insertIdx P k6).length cK)
    have HIn:=Lib.hid (HI12.out.set ((Touch.refl [w2.heap.size] W12).setCell (p:=⟨w2.heap.size,1,none⟩) (.inl (by simp)) (.slice aK (n.keys.insertIdx P k6).length cK)) hr)
    refine owp_skip (w1:= ?_) ?_ ?_
    rotate_left
    ·(go_simp;first|rfl|(constructor<;>rfl))
    refine⟨fun _ h=>absurd h (by decide), ?_⟩
    clear hc hz hr
    simp only[Act.put,zpa,zpb,zpc]
    have HZ13:=Lib.hid (Nat.le_trans HZ12.out ((Touch.refl [w2.heap.size] W12).setCell (p:=⟨w2.heap.size,1,none⟩) (.inl (by simp)) (.slice aK (n.keys.insertIdx P k6).length cK)).size)
    refine par3_name (fun W13 hW=> ?_)
    rw[←hW] at HIn HZ13
    have HI13:=HIn
    clear hW HI12 HZ12
    refine par3_tail _ (by simp only[List.drop_succ_cons,List.drop_zero];rfl) (by kernel_rfl) ?_
    skip
    have c3:=World.rowIs.cell HI13.out.box (i:=3) (by decide)
    have fz:=World.rowIs.frozen HI13.out.box
    go_wp2_with fail
    refine NoPanic.normal ?_
    go_step
    go_step
    go_meet
    have hIF:=(HI13.out.set ((Touch.refl [w2.heap.size] W13).setCell (p:=⟨w2.heap.size,3,none⟩) (.inl (by simp)) (.slice aC (n.kids.insertIdx (P+1) n6).length cC)) (HI13.out.box.set 3 (.slice aC (n.kids.insertIdx (P+1) n6).length cC))).unbase HS7.out
    exact⟨aK,cK,va,vc,aC,cC,ndSt_congr hIF (fun i hi=>by rcases i with _|_|_|_|i<;>first|rfl|exact congrArg Value.bool hl|(exfalso;omega))⟩
  ·obtain⟨k1,k2,k3,k4⟩:=hok.leafs hl
   rw[if_pos hl] at hq
   have HQ:=Lib.hid hq
   have HBS:=fun(w':World) (h:NdI w' (.slice ka n.keys.length kc) (.slice va n.vals.length vc) (.slice ca n.kids.length cc) n)=>Lib.hid (bsearch_any key h.ks hok.pw (by omega))
   have HPOS:=Lib.hid (fun h=>posL_lt (n:=n) (key:=key) hok.pw h)
   have HPLE:=Lib.hid (posL_le n.keys key)
   have HSH:=Lib.hid (hok.sh.put (key:=key) (val:=val) hl hk hv)
   have hnp:ndPut n key val=if hasL n.keys key=true then { n with vals:=n.vals.set (posL n.keys key) val } else { n with keys:=n.keys.insertIdx (posL n.keys key) key,vals:=n.vals.insertIdx (posL n.keys key) val }:=rfl
   rw[hnp] at HSH HQ
   obtain⟨P,hP⟩: ∃P,P=posL n.keys key:=⟨_,rfl⟩
   obtain⟨H,hH⟩: ∃H,H=hasL n.keys key:=⟨_,rfl⟩
   rw[←hP, ←hH] at HBS HPOS HQ HSH
   rw[←hP] at HPLE
   have HK2:=Lib.hid k2
   have HK3:=Lib.hid k3
   clear hq hok k1 k2 k3 k4 hP hH hnp HR
   go_wp2_with (refine wpList_store_node rfl (.tmp 12) (.tmp 25) rfl w2.heap.size true (.slice ka n.keys.length kc) (.slice va n.vals.length vc) (.slice ca n.kids.length cc) n (by first|rfl|exact hl) rfl rfl (node0_new w2) (by simp[Value.oneCell']) ?_;intro w3 hr3 t3;have HIN:=Lib.hid (InSt.of_read HO.out HP2.out (by omega) HXB.out HS2.out (Nat.le_refl _) hr3 (((Touch.refl [w2.heap.size] w2).alloc _).trans t3 (fun b hb=> .inl hb)));obtain⟨c0,c1,c2,c3⟩:=ndF_cells hr3;have HRP:=Lib.hid (HIN.out.sx.row HROP.out (by simp));clear hr3 t3)
   refine(HBS _ (HIN.out.nodeI n.leaf)).out.mono ?_
   rintro e w4 ⟨rfl,hd⟩
   have HI4:=Lib.hid (HIN.out.below hd.below)
   clear hd c0 c1 c2 c3 HBS HRP
   obtain⟨c0,c1,c2,c3⟩:=ndF_cells HI4.out.box
   cases H
   ·have hS:(fun w':World=>w'.cell? ⟨w2.heap.size,1,none⟩=some (.slice ka n.keys.length kc)∧w'.cell? ⟨w2.heap.size,2,none⟩=some (.slice va n.vals.length vc)) w4.drew:=⟨c1,c2⟩
    have HS0:=Lib.hid hS
    clear hS
    go_upto_region 10 with (fail)
    go_cut [59] (fun _ wx=>InsSt w0 (w.alloc (.cells #[.int .u64 0, .int .i64 0] 111)) wx p (K+4) M (w.heap.size::X) w2.heap.size (w.heap.size+1) ⟨true,n.keys.insertIdx P key,n.vals.insertIdx P val,n.kids⟩)
    case rest=>
     have hq:R=splitB M no ⟨true,n.keys.insertIdx P key,n.vals.insertIdx P val,n.kids⟩:=by rw[HQ.out,if_neg (by simp), ←hl]
     obtain⟨aK,cK,aV,cV,aC,cC,hI⟩:=hcut
     have HIF:=Lib.hid hI
     clear hI
     obtain⟨c0,c1,c2,c3⟩:=ndF_cells HIF.out.box
     have hsh:NdSh (⟨true,n.keys.insertIdx P key,n.vals.insertIdx P val,n.kids⟩:ND) 41:=(by have hz:=HSH.out;rw[if_neg (by simp),hl] at hz;exact hz)
     have hbd:=split_bd (no:=no) HIF.out.pg hsh
     have HSP:=split_any (no:=no) HIF.out.pg (by omega) (HIF.out.nodeI true) hsh (by omega) (fun g hg=>by simp[hg])
     generalize splitB M no (⟨true,n.keys.insertIdx P key,n.vals.insertIdx P val,n.kids⟩:ND)=G at hbd HSP hq
     obtain⟨k5,no5,er5,M5⟩:=G
     simp only at hbd HSP
     unfold ndV at HSP
     have HBD:=Lib.hid hbd
     have HQ2:=Lib.hid hq
     have HSP:=Lib.hid HSP
     clear hsh hbd hq
     go_wp2_with fail
     refine HSP.out.mono ?_
     rintro e w5 ⟨rfl,hp5,hs5⟩
     have HP5:=Lib.hid hp5
     have HS5:=Lib.hid hs5
     have HRP:=Lib.hid (hs5.row (HIF.out.sx.row HROP.out (by simp)) (by simp))
     clear hp5 hs5 c0 c1 c2 c3
     go_wp2_with (refine wpList_store_part rfl (.tmp 10) (.tmp 64) rfl w.heap.size k5 no5 rfl rfl HRP.out ?_;intro w9 hr9 t9;have HR9:=Lib.hid hr9;have HT9:=Lib.hid t9;clear hr9 t9)
     refine bodyPost_ret_by (res_part2 Tryz.results56 rfl HR9.out) rfl ?_
     have HE:=pt_end (HP5.out.sub (fun y hy=>by simp at hy ⊢;rcases hy with hy|hy<;>simp[hy])) (HIF.out.sx.trans (HS5.out.sub (fun y hy=>by simp at hy ⊢;rcases hy with hy|hy<;>simp[hy]))) HT9.out HX.out hw (K:=K+30*(f+1)) (by omega)
     rw[HQ2.out]
     exact⟨rfl,HE.1,HE.2,HBD.out⟩
    go_wp2_with fail
    refine wp_region_noPanic ?_
    refine wp_region_par3 14 13 (by kernel_rfl) (by kernel_rfl) (by simp) (by omega) (by kernel_rfl) (by kernel_rfl) (fun w':World=>w'.cell? ⟨w2.heap.size,1,none⟩=some (.slice ka n.keys.length kc)∧w'.cell? ⟨w2.heap.size,2,none⟩=some (.slice va n.vals.length vc)) ?_
    refine par3_move (v:= ?_) 0 (by simp only[zga,zgb,zgc];rfl) (by kernel_rfl) (by rfl) ?_ (fun _ _ _ h=>h) ?_
    rotate_left
    ·(intro w9;go_simp;try with_reducible rfl)
    simp only[Act.put,zpa,zpb,zpc]
    refine par3_read (v:= ?_) 1 (by simp only[zga,zgb,zgc];rfl) (by kernel_rfl) (by rfl) HS0.out ?_ (fun _ _ _ h=>h) ?_
    rotate_left
    ·(intro w9 hSw;(try dsimp only at hSw);go_simp;try with_reducible rfl)
    simp only[Act.put,zpa,zpb,zpc]
    refine par3_move (v:= ?_) 2 (by simp only[zga,zgb,zgc];rfl) (by kernel_rfl) (by rfl) ?_ (fun _ _ _ h=>h) ?_
    rotate_left
    ·(intro w9;go_simp;try with_reducible rfl)
    simp only[Act.put,zpa,zpb,zpc]
    refine par3_move (v:= ?_) 3 (by simp only[zga,zgb,zgc];rfl) (by kernel_rfl) (by rfl) ?_ (fun _ _ _ h=>h) ?_
    rotate_left
    ·(intro w9;go_simp;try with_reducible rfl)
    simp only[Act.put,zpa,zpb,zpc]
    refine par3_move (v:= ?_) 6 (by simp only[zga,zgb,zgc];rfl) (by kernel_rfl) (by rfl) ?_ (fun _ _ _ h=>h) ?_
    rotate_left
    ·(intro w9;go_simp;try with_reducible rfl)
    simp only[Act.put,zpa,zpb,zpc]
    refine par3_read (v:= ?_) 7 (by simp only[zga,zgb,zgc];rfl) (by kernel_rfl) (by rfl) HS0.out ?_ (fun _ _ _ h=>h) ?_
    rotate_left
    ·(intro w9 hSw;(try dsimp only at hSw);go_simp;try with_reducible rfl)
    simp only[Act.put,zpa,zpb,zpc]
    refine par3_move (v:= ?_) 8 (by simp only[zga,zgb,zgc];rfl) (by kernel_rfl) (by rfl) ?_ (fun _ _ _ h=>h) ?_
    rotate_left
    ·(intro w9;go_simp;try with_reducible rfl)
    simp only[Act.put,zpa,zpb,zpc]
    refine par3_move (v:= ?_) 9 (by simp only[zga,zgb,zgc];rfl) (by kernel_rfl) (by rfl) ?_ (fun _ _ _ h=>h) ?_
    rotate_left
    ·(intro w9;go_simp;try with_reducible rfl)
    simp only[Act.put,zpa,zpb,zpc]
    refine par3_name (fun W6 hW6=> ?_)
    have HI6:=Lib.hid (show InSt w0 _ W6 p (K+4) M (w.heap.size::X) w2.heap.size (w.heap.size+1) _ _ _ _ _ _ _ by rw[hW6];exact HI4.out.below ((Touch.refl [] w4).drew.below (Nat.le_refl _) (by simp)))
    have HZ6:=Lib.hid (show w4.heap.size≤W6.heap.size by rw[hW6];exact Nat.le_refl _)
    have HBX:=Lib.hid (show w.heap.size+1≤w2.heap.size by have:=HS2.out.size;rw[World.size_alloc_eq] at this;exact this)
    have HBL:=Lib.hid (World.rowIs.lt HI4.out.box)
    have HLTK:=Lib.hid (fun b (e:(Value.slice ka n.keys.length kc).ownBlock=some b)=>(HI4.out.ks.lt b e).2)
    have HLTV:=Lib.hid (fun b (e:(Value.slice va n.vals.length vc).ownBlock=some b)=>(HI4.out.vs.lt b e).2)
    clear hW6 c0 c1 c2 c3
    refine par3_two 4 10 (by simp only[zga,zgb,zgc];rfl) (by simp only[zga,zgb,zgc];rfl) (by kernel_rfl) (by rfl) (by rfl) ?_ ?_
    ·have HIn:=Lib.hid (HI6.out.below (below_alloc (o:= .cells #[.int .u64 key] 28) (Below.refl _ _)))
     have HV1:=Lib.hid (VecSt.new (s:=w4.heap.size) (W:=W6) 28 (.int .u64 key) HZ6.out)
     refine owp_val (v:= ?_) (w1:= ?_) ?_ ?_
     rotate_left 2
     ·(go_simp;constructor<;>rfl)
     refine⟨fun s _=>⟨(World.rowIs.cell HIn.out.box (i:=1) (by decide)).trans ((World.rowIs.cell HI6.out.box (i:=1) (by decide)).symm.trans s.1),(World.rowIs.cell HIn.out.box (i:=2) (by decide)).trans ((World.rowIs.cell HI6.out.box (i:=2) (by decide)).symm.trans s.2)⟩, ?_⟩
     simp only[Act.put,zpa,zpb,zpc]
     have HZ7:=Lib.hid (show w4.heap.size≤(W6.alloc (.cells #[.int .u64 key] 28)).heap.size by have:=HZ6.out;rw[World.size_alloc_eq];omega)
     refine par3_name (fun W7 hW=> ?_)
     rw[←hW] at HIn HZ7 HV1
     have HI7:=HIn
     clear hW HI6 HZ6
     refine par3_two 5 10 (by simp only[zga,zgb,zgc];rfl) (by simp only[zga,zgb,zgc];rfl) (by kernel_rfl) (by rfl) (by rfl) ?_ ?_
     ·refine owp_call (by go_simp;constructor<;>rfl) ?_
      refine(insU_any HI7.out.ks (by have:=World.rowIs.lt HI7.out.box;have:=HBX.out;omega) (by have:=HPLE.out;have:=HK2.out;omega) (by have:=HK2.out;have:=HK3.out;omega) HV1.out.at_ (fun e=>by have:=HLTK.out _ e;have:=HV1.out.ge;omega)).mono ?_
      rintro e W8 ⟨vK,rfl,ho,t,hn⟩
      have HIn:=Lib.hid (HI7.out.newK (l':=(n.keys.insertIdx P key)) (by rw[List.length_insertIdx_of_le_length (by have:=HPLE.out;have:=HK2.out;omega)];exact ho) t hn)
      (have HZ8:=Lib.hid (Nat.le_trans HZ7.out t.size))
      have hf: ∃a c,vK= .slice a ((n.keys.insertIdx P key)).length c:=((HIn.out.nodeI true).ks).form
      obtain⟨aK,cK,rfl⟩:=hf
      refine⟨_,rfl,fun s _=>⟨(World.rowIs.cell HIn.out.box (i:=1) (by decide)).trans ((World.rowIs.cell HI7.out.box (i:=1) (by decide)).symm.trans s.1),(World.rowIs.cell HIn.out.box (i:=2) (by decide)).trans ((World.rowIs.cell HI7.out.box (i:=2) (by decide)).symm.trans s.2)⟩, ?_⟩
      clear ho t hn
      simp only[Act.put,zpa,zpb,zpc]
      have HI8:=HIn
      clear HI7 HZ7 HV1
      refine par3_move (v:= ?_) 12 (by simp only[zga,zgb,zgc];rfl) (by kernel_rfl) (by rfl) ?_ (fun _ _ _ h=>h) ?_
      rotate_left
      ·(intro w9;go_simp;try with_reducible rfl)
      simp only[Act.put,zpa,zpb,zpc]
      refine par3_one 10 (by simp only[zga,zgb,zgc];rfl) (by kernel_rfl) (by rfl) ?_
      have HIn:=Lib.hid (HI8.out.below (below_alloc (o:= .cells #[.int .u64 val] 28) (Below.refl _ _)))
      have HV2:=Lib.hid (VecSt.new (s:=w4.heap.size) (W:=W8) 28 (.int .u64 val) HZ8.out)
      refine owp_val (v:= ?_) (w1:= ?_) ?_ ?_
      rotate_left 2
      ·(go_simp;constructor<;>rfl)
      refine⟨fun s _=>⟨(World.rowIs.cell HIn.out.box (i:=1) (by decide)).trans ((World.rowIs.cell HI8.out.box (i:=1) (by decide)).symm.trans s.1),(World.rowIs.cell HIn.out.box (i:=2) (by decide)).trans ((World.rowIs.cell HI8.out.box (i:=2) (by decide)).symm.trans s.2)⟩, ?_⟩
      simp only[Act.put,zpa,zpb,zpc]
      have HZ9:=Lib.hid (show w4.heap.size≤(W8.alloc (.cells #[.int .u64 val] 28)).heap.size by have:=HZ8.out;rw[World.size_alloc_eq];omega)
      refine par3_name (fun W9 hW=> ?_)
      rw[←hW] at HIn HZ9 HV2
      have HI9:=HIn
      clear hW HI8 HZ8
      refine par3_one 11 (by simp only[zga,zgb,zgc];rfl) (by kernel_rfl) (by rfl) ?_
      refine owp_call (by go_simp;constructor<;>rfl) ?_
      refine(insU_any HI9.out.vs (by have:=World.rowIs.lt HI9.out.box;have:=HBX.out;omega) (by have:=HPLE.out;have:=HK2.out;omega) (by have:=HK2.out;have:=HK3.out;omega) HV2.out.at_ (fun e=>by have:=HLTV.out _ e;have:=HV2.out.ge;omega)).mono ?_
      rintro e W10 ⟨vV,rfl,ho,t,hn⟩
      have HIn:=Lib.hid (HI9.out.newV (l':=(n.vals.insertIdx P val)) (by rw[List.length_insertIdx_of_le_length (by have:=HPLE.out;have:=HK2.out;omega)];exact ho) t hn)
      (have HZ10:=Lib.hid (Nat.le_trans HZ9.out t.size))
      have hf: ∃a c,vV= .slice a ((n.vals.insertIdx P val)).length c:=((HIn.out.nodeI true).vs).form
      obtain⟨aV,cV,rfl⟩:=hf
      refine⟨_,rfl,fun s _=>⟨(World.rowIs.cell HIn.out.box (i:=1) (by decide)).trans ((World.rowIs.cell HI9.out.box (i:=1) (by decide)).symm.trans s.1),(World.rowIs.cell HIn.out.box (i:=2) (by decide)).trans ((World.rowIs.cell HI9.out.box (i:=2) (by decide)).symm.trans s.2)⟩, ?_⟩
      clear ho t hn
      simp only[Act.put,zpa,zpb,zpc]
      have HI10:=HIn
      clear HI9 HZ9 HV2
      refine par3_one 13 (by simp only[zga,zgb,zgc];rfl) (by kernel_rfl) (by rfl) ?_
      have hc:=World.rowIs.cell HI10.out.box (i:=1) (by decide)
      have hz:=World.rowIs.frozen HI10.out.box 1
      have hr:=HI10.out.box.set 1 (.slice aK (n.keys.insertIdx P key).length cK)
      have HIn:=Lib.hid (HI10.out.set ((Touch.refl [w2.heap.size] W10).setCell (p:=⟨w2.heap.size,1,none⟩) (.inl (by simp)) (.slice aK (n.keys.insertIdx P key).length cK)) hr)
      refine owp_skip (w1:= ?_) ?_ ?_
      rotate_left
      ·(go_simp;first|rfl|(constructor<;>rfl))
      refine⟨fun _ h=>absurd h (by decide), ?_⟩
      clear hc hz hr
      simp only[Act.put,zpa,zpb,zpc]
      have HZ11:=Lib.hid (Nat.le_trans HZ10.out ((Touch.refl [w2.heap.size] W10).setCell (p:=⟨w2.heap.size,1,none⟩) (.inl (by simp)) (.slice aK (n.keys.insertIdx P key).length cK)).size)
      refine par3_name (fun W11 hW=> ?_)
      rw[←hW] at HIn HZ11
      have HI11:=HIn
      clear hW HI10 HZ10
      refine par3_tail _ (by simp only[List.drop_succ_cons,List.drop_zero];rfl) (by kernel_rfl) ?_
      skip
      have c2:=World.rowIs.cell HI11.out.box (i:=2) (by decide)
      have fz:=World.rowIs.frozen HI11.out.box
      go_wp2_with fail
      refine NoPanic.normal ?_
      go_step
      go_step
      go_meet
      have hIF:=HI11.out.set ((Touch.refl [w2.heap.size] W11).setCell (p:=⟨w2.heap.size,2,none⟩) (.inl (by simp)) (.slice aV (n.vals.insertIdx P val).length cV)) (HI11.out.box.set 2 (.slice aV (n.vals.insertIdx P val).length cV))
      exact⟨aK,cK,aV,cV,ca,cc,ndSt_congr hIF (fun i hi=>by rcases i with _|_|_|_|i<;>first|rfl|exact congrArg Value.bool hl|(exfalso;omega))⟩
     ·have HIn:=Lib.hid (HI7.out.below (below_alloc (o:= .cells #[.int .u64 val] 28) (Below.refl _ _)))
      have HV2:=Lib.hid (VecSt.new (s:=w4.heap.size) (W:=W7) 28 (.int .u64 val) HZ7.out)
      refine owp_val (v:= ?_) (w1:= ?_) ?_ ?_
      rotate_left 2
      ·(go_simp;constructor<;>rfl)
      refine⟨fun s _=>⟨(World.rowIs.cell HIn.out.box (i:=1) (by decide)).trans ((World.rowIs.cell HI7.out.box (i:=1) (by decide)).symm.trans s.1),(World.rowIs.cell HIn.out.box (i:=2) (by decide)).trans ((World.rowIs.cell HI7.out.box (i:=2) (by decide)).symm.trans s.2)⟩, ?_⟩
      simp only[Act.put,zpa,zpb,zpc]
      have HV1:=Lib.hid (HV1.out.touch (F:=[]) ((Touch.refl [] W7).alloc (.cells #[.int .u64 val] 28)) (by simp))
      have HZ8:=Lib.hid (show w4.heap.size≤(W7.alloc (.cells #[.int .u64 val] 28)).heap.size by have:=HZ7.out;rw[World.size_alloc_eq];omega)
      refine par3_name (fun W8 hW=> ?_)
      rw[←hW] at HIn HZ8 HV2 HV1
      have HI8:=HIn
      clear hW HI7 HZ7
      refine par3_one 5 (by simp only[zga,zgb,zgc];rfl) (by kernel_rfl) (by rfl) ?_
      refine owp_call (by go_simp;constructor<;>rfl) ?_
      refine(insU_any HI8.out.ks (by have:=World.rowIs.lt HI8.out.box;have:=HBX.out;omega) (by have:=HPLE.out;have:=HK2.out;omega) (by have:=HK2.out;have:=HK3.out;omega) HV1.out.at_ (fun e=>by have:=HLTK.out _ e;have:=HV1.out.ge;omega)).mono ?_
      rintro e W9 ⟨vK,rfl,ho,t,hn⟩
      have HIn:=Lib.hid (HI8.out.newK (l':=(n.keys.insertIdx P key)) (by rw[List.length_insertIdx_of_le_length (by have:=HPLE.out;have:=HK2.out;omega)];exact ho) t hn)
      (have HZ9:=Lib.hid (Nat.le_trans HZ8.out t.size);have HV2:=Lib.hid (HV2.out.touch t (fun hm=>by rw[blkOf_own HI8.out.ks,Option.mem_toList] at hm;have:=HLTK.out _ hm;have:=HV2.out.ge;omega)))
      have hf: ∃a c,vK= .slice a ((n.keys.insertIdx P key)).length c:=((HIn.out.nodeI true).ks).form
      obtain⟨aK,cK,rfl⟩:=hf
      refine⟨_,rfl,fun s _=>⟨(World.rowIs.cell HIn.out.box (i:=1) (by decide)).trans ((World.rowIs.cell HI8.out.box (i:=1) (by decide)).symm.trans s.1),(World.rowIs.cell HIn.out.box (i:=2) (by decide)).trans ((World.rowIs.cell HI8.out.box (i:=2) (by decide)).symm.trans s.2)⟩, ?_⟩
      clear ho t hn
      simp only[Act.put,zpa,zpb,zpc]
      have HI9:=HIn
      clear HI8 HZ8 HV1
      refine par3_move (v:= ?_) 12 (by simp only[zga,zgb,zgc];rfl) (by kernel_rfl) (by rfl) ?_ (fun _ _ _ h=>h) ?_
      rotate_left
      ·(intro w9;go_simp;try with_reducible rfl)
      simp only[Act.put,zpa,zpb,zpc]
      refine par3_one 11 (by simp only[zga,zgb,zgc];rfl) (by kernel_rfl) (by rfl) ?_
      refine owp_call (by go_simp;constructor<;>rfl) ?_
      refine(insU_any HI9.out.vs (by have:=World.rowIs.lt HI9.out.box;have:=HBX.out;omega) (by have:=HPLE.out;have:=HK2.out;omega) (by have:=HK2.out;have:=HK3.out;omega) HV2.out.at_ (fun e=>by have:=HLTV.out _ e;have:=HV2.out.ge;omega)).mono ?_
      rintro e W10 ⟨vV,rfl,ho,t,hn⟩
      have HIn:=Lib.hid (HI9.out.newV (l':=(n.vals.insertIdx P val)) (by rw[List.length_insertIdx_of_le_length (by have:=HPLE.out;have:=HK2.out;omega)];exact ho) t hn)
      (have HZ10:=Lib.hid (Nat.le_trans HZ9.out t.size))
      have hf: ∃a c,vV= .slice a ((n.vals.insertIdx P val)).length c:=((HIn.out.nodeI true).vs).form
      obtain⟨aV,cV,rfl⟩:=hf
      refine⟨_,rfl,fun s _=>⟨(World.rowIs.cell HIn.out.box (i:=1) (by decide)).trans ((World.rowIs.cell HI9.out.box (i:=1) (by decide)).symm.trans s.1),(World.rowIs.cell HIn.out.box (i:=2) (by decide)).trans ((World.rowIs.cell HI9.out.box (i:=2) (by decide)).symm.trans s.2)⟩, ?_⟩
      clear ho t hn
      simp only[Act.put,zpa,zpb,zpc]
      have HI10:=HIn
      clear HI9 HZ9 HV2
      refine par3_one 13 (by simp only[zga,zgb,zgc];rfl) (by kernel_rfl) (by rfl) ?_
      have hc:=World.rowIs.cell HI10.out.box (i:=1) (by decide)
      have hz:=World.rowIs.frozen HI10.out.box 1
      have hr:=HI10.out.box.set 1 (.slice aK (n.keys.insertIdx P key).length cK)
      have HIn:=Lib.hid (HI10.out.set ((Touch.refl [w2.heap.size] W10).setCell (p:=⟨w2.heap.size,1,none⟩) (.inl (by simp)) (.slice aK (n.keys.insertIdx P key).length cK)) hr)
      refine owp_skip (w1:= ?_) ?_ ?_
      rotate_left
      ·(go_simp;first|rfl|(constructor<;>rfl))
      refine⟨fun _ h=>absurd h (by decide), ?_⟩
      clear hc hz hr
      simp only[Act.put,zpa,zpb,zpc]
      have HZ11:=Lib.hid (Nat.le_trans HZ10.out ((Touch.refl [w2.heap.size] W10).setCell (p:=⟨w2.heap.size,1,none⟩) (.inl (by simp)) (.slice aK (n.keys.insertIdx P key).length cK)).size)
      refine par3_name (fun W11 hW=> ?_)
      rw[←hW] at HIn HZ11
      have HI11:=HIn
      clear hW HI10 HZ10
      refine par3_tail _ (by simp only[List.drop_succ_cons,List.drop_zero];rfl) (by kernel_rfl) ?_
      skip
      have c2:=World.rowIs.cell HI11.out.box (i:=2) (by decide)
      have fz:=World.rowIs.frozen HI11.out.box
      go_wp2_with fail
      refine NoPanic.normal ?_
      go_step
      go_step
      go_meet
      have hIF:=HI11.out.set ((Touch.refl [w2.heap.size] W11).setCell (p:=⟨w2.heap.size,2,none⟩) (.inl (by simp)) (.slice aV (n.vals.insertIdx P val).length cV)) (HI11.out.box.set 2 (.slice aV (n.vals.insertIdx P val).length cV))
      exact⟨aK,cK,aV,cV,ca,cc,ndSt_congr hIF (fun i hi=>by rcases i with _|_|_|_|i<;>first|rfl|exact congrArg Value.bool hl|(exfalso;omega))⟩
    ·have HIn:=Lib.hid (HI6.out.below (below_alloc (o:= .cells #[.int .u64 val] 28) (Below.refl _ _)))
     have HV2:=Lib.hid (VecSt.new (s:=w4.heap.size) (W:=W6) 28 (.int .u64 val) HZ6.out)
     refine owp_val (v:= ?_) (w1:= ?_) ?_ ?_
     rotate_left 2
     ·(go_simp;constructor<;>rfl)
     refine⟨fun s _=>⟨(World.rowIs.cell HIn.out.box (i:=1) (by decide)).trans ((World.rowIs.cell HI6.out.box (i:=1) (by decide)).symm.trans s.1),(World.rowIs.cell HIn.out.box (i:=2) (by decide)).trans ((World.rowIs.cell HI6.out.box (i:=2) (by decide)).symm.trans s.2)⟩, ?_⟩
     simp only[Act.put,zpa,zpb,zpc]
     have HZ7:=Lib.hid (show w4.heap.size≤(W6.alloc (.cells #[.int .u64 val] 28)).heap.size by have:=HZ6.out;rw[World.size_alloc_eq];omega)
     refine par3_name (fun W7 hW=> ?_)
     rw[←hW] at HIn HZ7 HV2
     have HI7:=HIn
     clear hW HI6 HZ6
     refine par3_one 4 (by simp only[zga,zgb,zgc];rfl) (by kernel_rfl) (by rfl) ?_
     have HIn:=Lib.hid (HI7.out.below (below_alloc (o:= .cells #[.int .u64 key] 28) (Below.refl _ _)))
     have HV1:=Lib.hid (VecSt.new (s:=w4.heap.size) (W:=W7) 28 (.int .u64 key) HZ7.out)
     refine owp_val (v:= ?_) (w1:= ?_) ?_ ?_
     rotate_left 2
     ·(go_simp;constructor<;>rfl)
     refine⟨fun s _=>⟨(World.rowIs.cell HIn.out.box (i:=1) (by decide)).trans ((World.rowIs.cell HI7.out.box (i:=1) (by decide)).symm.trans s.1),(World.rowIs.cell HIn.out.box (i:=2) (by decide)).trans ((World.rowIs.cell HI7.out.box (i:=2) (by decide)).symm.trans s.2)⟩, ?_⟩
     simp only[Act.put,zpa,zpb,zpc]
     have HV2:=Lib.hid (HV2.out.touch (F:=[]) ((Touch.refl [] W7).alloc (.cells #[.int .u64 key] 28)) (by simp))
     have HZ8:=Lib.hid (show w4.heap.size≤(W7.alloc (.cells #[.int .u64 key] 28)).heap.size by have:=HZ7.out;rw[World.size_alloc_eq];omega)
     refine par3_name (fun W8 hW=> ?_)
     rw[←hW] at HIn HZ8 HV1 HV2
     have HI8:=HIn
     clear hW HI7 HZ7
     refine par3_one 5 (by simp only[zga,zgb,zgc];rfl) (by kernel_rfl) (by rfl) ?_
     refine owp_call (by go_simp;constructor<;>rfl) ?_
     refine(insU_any HI8.out.ks (by have:=World.rowIs.lt HI8.out.box;have:=HBX.out;omega) (by have:=HPLE.out;have:=HK2.out;omega) (by have:=HK2.out;have:=HK3.out;omega) HV1.out.at_ (fun e=>by have:=HLTK.out _ e;have:=HV1.out.ge;omega)).mono ?_
     rintro e W9 ⟨vK,rfl,ho,t,hn⟩
     have HIn:=Lib.hid (HI8.out.newK (l':=(n.keys.insertIdx P key)) (by rw[List.length_insertIdx_of_le_length (by have:=HPLE.out;have:=HK2.out;omega)];exact ho) t hn)
     (have HZ9:=Lib.hid (Nat.le_trans HZ8.out t.size);have HV2:=Lib.hid (HV2.out.touch t (fun hm=>by rw[blkOf_own HI8.out.ks,Option.mem_toList] at hm;have:=HLTK.out _ hm;have:=HV2.out.ge;omega)))
     have hf: ∃a c,vK= .slice a ((n.keys.insertIdx P key)).length c:=((HIn.out.nodeI true).ks).form
     obtain⟨aK,cK,rfl⟩:=hf
     refine⟨_,rfl,fun s _=>⟨(World.rowIs.cell HIn.out.box (i:=1) (by decide)).trans ((World.rowIs.cell HI8.out.box (i:=1) (by decide)).symm.trans s.1),(World.rowIs.cell HIn.out.box (i:=2) (by decide)).trans ((World.rowIs.cell HI8.out.box (i:=2) (by decide)).symm.trans s.2)⟩, ?_⟩
     clear ho t hn
     simp only[Act.put,zpa,zpb,zpc]
     have HI9:=HIn
     clear HI8 HZ8 HV1
     refine par3_move (v:= ?_) 12 (by simp only[zga,zgb,zgc];rfl) (by kernel_rfl) (by rfl) ?_ (fun _ _ _ h=>h) ?_
     rotate_left
     ·(intro w9;go_simp;try with_reducible rfl)
     simp only[Act.put,zpa,zpb,zpc]
     refine par3_one 11 (by simp only[zga,zgb,zgc];rfl) (by kernel_rfl) (by rfl) ?_
     refine owp_call (by go_simp;constructor<;>rfl) ?_
     refine(insU_any HI9.out.vs (by have:=World.rowIs.lt HI9.out.box;have:=HBX.out;omega) (by have:=HPLE.out;have:=HK2.out;omega) (by have:=HK2.out;have:=HK3.out;omega) HV2.out.at_ (fun e=>by have:=HLTV.out _ e;have:=HV2.out.ge;omega)).mono ?_
     rintro e W10 ⟨vV,rfl,ho,t,hn⟩
     have HIn:=Lib.hid (HI9.out.newV (l':=(n.vals.insertIdx P val)) (by rw[List.length_insertIdx_of_le_length (by have:=HPLE.out;have:=HK2.out;omega)];exact ho) t hn)
     (have HZ10:=Lib.hid (Nat.le_trans HZ9.out t.size))
     have hf: ∃a c,vV= .slice a ((n.vals.insertIdx P val)).length c:=((HIn.out.nodeI true).vs).form
     obtain⟨aV,cV,rfl⟩:=hf
     refine⟨_,rfl,fun s _=>⟨(World.rowIs.cell HIn.out.box (i:=1) (by decide)).trans ((World.rowIs.cell HI9.out.box (i:=1) (by decide)).symm.trans s.1),(World.rowIs.cell HIn.out.box (i:=2) (by decide)).trans ((World.rowIs.cell HI9.out.box (i:=2) (by decide)).symm.trans s.2)⟩, ?_⟩
     clear ho t hn
     simp only[Act.put,zpa,zpb,zpc]
     have HI10:=HIn
     clear HI9 HZ9 HV2
     refine par3_one 13 (by simp only[zga,zgb,zgc];rfl) (by kernel_rfl) (by rfl) ?_
     have hc:=World.rowIs.cell HI10.out.box (i:=1) (by decide)
     have hz:=World.rowIs.frozen HI10.out.box 1
     have hr:=HI10.out.box.set 1 (.slice aK (n.keys.insertIdx P key).length cK)
     have HIn:=Lib.hid (HI10.out.set ((Touch.refl [w2.heap.size] W10).setCell (p:=⟨w2.heap.size,1,none⟩) (.inl (by simp)) (.slice aK (n.keys.insertIdx P key).length cK)) hr)
     refine owp_skip (w1:= ?_) ?_ ?_
     rotate_left
     ·(go_simp;first|rfl|(constructor<;>rfl))
     refine⟨fun _ h=>absurd h (by decide), ?_⟩
     clear hc hz hr
     simp only[Act.put,zpa,zpb,zpc]
     have HZ11:=Lib.hid (Nat.le_trans HZ10.out ((Touch.refl [w2.heap.size] W10).setCell (p:=⟨w2.heap.size,1,none⟩) (.inl (by simp)) (.slice aK (n.keys.insertIdx P key).length cK)).size)
     refine par3_name (fun W11 hW=> ?_)
     rw[←hW] at HIn HZ11
     have HI11:=HIn
     clear hW HI10 HZ10
     refine par3_tail _ (by simp only[List.drop_succ_cons,List.drop_zero];rfl) (by kernel_rfl) ?_
     skip
     have c2:=World.rowIs.cell HI11.out.box (i:=2) (by decide)
     have fz:=World.rowIs.frozen HI11.out.box
     go_wp2_with fail
     refine NoPanic.normal ?_
     go_step
     go_step
     go_meet
     have hIF:=HI11.out.set ((Touch.refl [w2.heap.size] W11).setCell (p:=⟨w2.heap.size,2,none⟩) (.inl (by simp)) (.slice aV (n.vals.insertIdx P val).length cV)) (HI11.out.box.set 2 (.slice aV (n.vals.insertIdx P val).length cV))
     exact⟨aK,cK,aV,cV,ca,cc,ndSt_congr hIF (fun i hi=>by rcases i with _|_|_|_|i<;>first|rfl|exact congrArg Value.bool hl|(exfalso;omega))⟩
   ·have hlt2:=HPOS.out rfl
    have hvs:=HI4.out.vs
    obtain⟨g,c',hv⟩:=ownsRow_form hvs (by have:=HK2.out;omega)
    cases hv
    obtain⟨-,hnc, -, -,ff,hff,hfx⟩:=ownsRow_rowIs hvs
    have hcc:=World.rowIs.cell hff (i:=P) (by have:=HK2.out;omega)
    have hfz:=World.rowIs.frozen hff P
    have hgb:w2.heap.size≠g:=fun e=>(List.nodup_cons.1 HI4.out.nd).1 (by rw[e];simp[ndBk,blkOf])
    have y1:(P:Int)<(n.vals.length:Int):=by have:=HK2.out;omega
    have HI5:=Lib.hid (HI4.out.setV rfl (i:=P) (by have:=HK2.out;omega) val)
    have hq:R=splitB M no ⟨true,n.keys,n.vals.set P val,n.kids⟩:=by rw[HQ.out,if_pos rfl, ←hl]
    clear hff hfx hvs hlt2
    have hsh:NdSh (⟨true,n.keys,n.vals.set P val,n.kids⟩:ND) 41:=(by have hz:=HSH.out;rw[if_pos rfl,hl] at hz;exact hz)
    have hbd:=split_bd (no:=no) HI5.out.pg hsh
    have HSP:=split_any (no:=no) HI5.out.pg (by omega) (HI5.out.nodeI true) hsh (by omega) (fun g hg=>by simp[hg])
    generalize splitB M no (⟨true,n.keys,n.vals.set P val,n.kids⟩:ND)=G at hbd HSP hq
    obtain⟨k5,no5,er5,M5⟩:=G
    simp only at hbd HSP
    unfold ndV at HSP
    have HBD:=Lib.hid hbd
    have HQ2:=Lib.hid hq
    have HSP:=Lib.hid HSP
    clear hsh hbd hq
    go_wp2_with fail
    refine HSP.out.mono ?_
    rintro e w5 ⟨rfl,hp5,hs5⟩
    have HP5:=Lib.hid hp5
    have HS5:=Lib.hid hs5
    have HRP:=Lib.hid (hs5.row (HI5.out.sx.row HROP.out (by simp)) (by simp))
    clear hp5 hs5 c0 c1 c2 c3
    go_wp2_with (refine wpList_store_part rfl (.tmp 10) (.tmp 64) rfl w.heap.size k5 no5 rfl rfl HRP.out ?_;intro w9 hr9 t9;have HR9:=Lib.hid hr9;have HT9:=Lib.hid t9;clear hr9 t9)
    refine bodyPost_ret_by (res_part2 Tryz.results56 rfl HR9.out) rfl ?_
    have HE:=pt_end (HP5.out.sub (fun y hy=>by simp at hy ⊢;rcases hy with hy|hy<;>simp[hy])) (HI5.out.sx.trans (HS5.out.sub (fun y hy=>by simp at hy ⊢;rcases hy with hy|hy<;>simp[hy]))) HT9.out HX.out hw (K:=K+30*(f+1)) (by omega)
    rw[HQ2.out]
    exact⟨rfl,HE.1,HE.2,HBD.out⟩
end Go.Proofs.YtjgkegkinnlcoaaGreatDoor
