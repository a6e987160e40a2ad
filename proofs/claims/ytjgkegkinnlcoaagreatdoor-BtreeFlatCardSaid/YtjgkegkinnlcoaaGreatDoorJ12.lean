/- Lemmas on the way to the statement: BtHalf. -/
import Derived.Test.YtjgkegkinnlcoaaGreatDoorJ11
set_option linter.unusedSimpArgs false
set_option linter.unusedVariables false
namespace Go.Proofs.YtjgkegkinnlcoaaGreatDoor
open Go.RowKit Go.Maps Go.Joins
theorem rows_two (W1:World):((W1.drew.alloc (.cells #[.bool false, .slice none 0 0, .slice none 0 0, .slice none 0 0] 109)).alloc (.cells #[.bool false, .slice none 0 0, .slice none 0 0, .slice none 0 0] 109)).rowIs W1.heap.size 109 4 (ndF (.slice none 0 0) (.slice none 0 0) (.slice none 0 0) nd0)∧
  ((W1.drew.alloc (.cells #[.bool false, .slice none 0 0, .slice none 0 0, .slice none 0 0] 109)).alloc (.cells #[.bool false, .slice none 0 0, .slice none 0 0, .slice none 0 0] 109)).rowIs (W1.heap.size+1) 109 4 (ndF (.slice none 0 0) (.slice none 0 0) (.slice none 0 0) nd0):=
 ⟨rowIs_touch (ndF_new W1.drew (.slice none 0 0) (.slice none 0 0) (.slice none 0 0) nd0) (F:=[]) ((Touch.refl _ _).alloc _) (by simp),node0_row W1.drew _⟩
theorem World.size_alloc_eq (w:World) (o:Obj):(w.alloc o).heap.size=w.heap.size+1:=by simp
section
variable {w:World} {k:IntKind} {g o c:Nat} {l:List Int}
theorem IsI.take (h:IsI w k (.slice (some ⟨g,o,none⟩) l.length c) l) {m:Nat} (hm:m≤l.length) (hl:0<l.length):IsI w k (.slice (some ⟨g,o,none⟩) m c) (l.take m):=by
 obtain⟨g',o',c',hv,h1,h2,h3,h4⟩:=h.at_ hl
 cases hv
 refine .inr ⟨g,o,c,by rw[List.length_take,Nat.min_eq_left hm],by rw[List.length_take];omega,h2,h3,fun i hi=> ?_⟩
 rw[List.length_take] at hi
 rw[h4 i (by omega),List.getD_eq_getElem?_getD,List.getD_eq_getElem?_getD,List.getElem?_take_of_lt (by omega)]
theorem IsI.drop (h:IsI w k (.slice (some ⟨g,o,none⟩) l.length c) l) {m:Nat} (hm:m≤l.length) (hl:0<l.length):IsI w k (.slice (some ⟨g,o+m,none⟩) (l.length - m) (c - m)) (l.drop m):=by
 obtain⟨g',o',c',hv,h1,h2,h3,h4⟩:=h.at_ hl
 cases hv
 refine .inr ⟨g,o+m,c - m,by rw[List.length_drop],by rw[List.length_drop];omega,by omega,h3,fun i hi=> ?_⟩
 rw[List.length_drop] at hi
 have:=h4 (m+i) (by omega)
 rw[Nat.add_assoc,this,List.getD_eq_getElem?_getD,List.getD_eq_getElem?_getD,List.getElem?_drop]
end
def HfPost (w:World) (kv vv cv:Value) (n:ND) (e:Ending) (w':World):Prop:=
 ∃ka va ca kb vb cb,e= .returned (.tuple #[ndV ka va ca (halfA n), .int .u64 (halfK n),ndV kb vb cb (halfB n)])∧NdI w' ka va ca (halfA n)∧NdI w' kb vb cb (halfB n)∧(∀g∈ndBk ka va ca,g∈ndBk kv vv cv)∧(∀g∈ndBk kb vb cb,g∈ndBk kv vv cv)∧Below w.heap.size w w'
theorem res_node3 {fn:Func} {p u q:Tmp} {tmps:Array Value} {W:World} {g g':Nat} {kv vv cv kv' vv' cv':Value} {n n':ND} (h:fn.results= #[.cell p 109, .tmp u, .cell q 109]) (hp:tmps.getD p undef= .pointer (some ⟨g,0,none⟩)) (hq:tmps.getD q undef= .pointer (some ⟨g',0,none⟩))
  (hr:W.rowIs g 109 4 (ndF kv vv cv n)) (hr':W.rowIs g' 109 4 (ndF kv' vv' cv' n')):
  (results fn tmps).run Tryz.prog W= .ok (.tuple #[ndV kv vv cv n,tmps.getD u undef,ndV kv' vv' cv' n']) W:=by
 have key: ∀ {g:Nat} {kv vv cv:Value} {n:ND},W.rowIs g 109 4 (ndF kv vv cv n)→(loadVar 109 ⟨g,0,none⟩).run Tryz.prog W= .ok (ndV kv vv cv n) W:=fun {g kv vv cv n} hr=>by
  obtain⟨c,hc,hs,hi⟩:=hr
  have hcs:c= #[.bool n.leaf,kv,vv,cv]:=by
   apply Array.ext_getElem?
   intro i
   by_cases hlt:i<4
   ·rw[hi i hlt]
    rcases i with _|_|_|_|i<;>first|rfl|(exfalso;omega)
   ·rw[Array.getElem?_eq_none (by omega),Array.getElem?_eq_none (by simp;omega)]
  subst hcs
  exact run_loadVar_row (P:=Tryz.prog) W g _ 109 _ _ _ hc Tryz.underlying109 rfl (by kernel_rfl)
 have h1:=key hr
 have h2:=key hr'
 have hp':tmps[p]?.getD undef= .pointer (some ⟨g,0,none⟩):=by simpa using hp
 have hq':tmps[q]?.getD undef= .pointer (some ⟨g',0,none⟩):=by simpa using hq
 simp only[results,h]
 simp[Sem.run_bind,Result.andThen,hp',hq',asAddr,h1,h2]
set_option maxRecDepth 100000 in
set_option maxHeartbeats 4000000 in
theorem halves_any {w:World} {kv vv cv:Value} {n:ND} {K:Nat} (h:NdI w kv vv cv n) (hs:NdSh n K) (h3:3≤n.keys.length) (hK:n.keys.length≤1000):
  Calls Tryz.prog 185 #[ndV kv vv cv n] w (HfPost w kv vv cv n):=by
 obtain⟨g,o,kc,rfl,hk1,hk2,hg,hcell⟩:=h.ks.at_ (by omega)
 obtain⟨H,hH⟩: ∃H,H=n.keys.length / 2:=⟨_,rfl⟩
 have hH1:H+1<n.keys.length:=by omega
 have hc:=hcell H (by omega)
 obtain⟨KEY,hKEY⟩: ∃KEY,KEY=n.keys.getD H 0:=⟨_,rfl⟩
 rw[←hKEY] at hc
 have HKK:=Lib.hid (show halfK n=KEY by unfold halfK;rw[←hH,hKEY])
 have q0:(n.keys.length:Int) / 2=(H:Int):=by omega
 have q1:Int.tdiv (n.keys.length:Int) 2=(H:Int):=by rw[Int.tdiv_eq_ediv_of_nonneg (by omega)];omega
 have y1:(H:Int)<(n.keys.length:Int):=by omega
 have y2:H≤kc:=by omega
 have y3: ¬(kc=H):=by omega
 have y4: ¬(kc=H+1):=by omega
 have y5:H+1≤n.keys.length:=by omega
 have y6:H≤n.keys.length:=by omega
 have y7:(H:Int)+1≤(n.keys.length:Int):=by omega
 have y8:((H:Int)+1).toNat=H+1:=by omega
 have HH:=Lib.hid hH
 clear hcell hKEY
 have q2:IntKind.i64.wrap ((H:Int)+1)=(H:Int)+1:=IntWalk.i64_in _ (by omega)
 cases hl:n.leaf
 ·obtain⟨e1,e2, -⟩:=hs.fk hl
  obtain⟨va,vc,rfl⟩:=h.vs.form
  obtain⟨gk,ok,cc,rfl,z1,z2,hgk, -⟩:=h.cs.at_ (by omega)
  have u1:H+1≤cc:=by omega
  have u2: ¬(cc=H+1):=by omega
  have u3:H+1≤n.kids.length:=by omega
  have u4:(H:Int)+1≤(n.kids.length:Int):=by omega
  have u6:(H:Int)+1≤(cc:Int):=by omega
  have u7:(0:Int)≤(H:Int)+1:=by omega
  have HA:=Lib.hid (show halfA n=⟨false,n.keys.take H,[],n.kids.take (H+1)⟩ by unfold halfA;rw[hl, ←hH];rfl)
  have HBB:=Lib.hid (show halfB n=⟨false,n.keys.drop (H+1),[],n.kids.drop (H+1)⟩ by unfold halfB;rw[hl, ←hH];rfl)
  have HIA:=Lib.hid (fun(w':World) (hb:Below w.heap.size w w')=>(⟨(h.ks.below hb).take (m:=H) (by omega) (by omega),IsI.nil _ _,(h.cs.below hb).take (m:=H+1) (by omega) (by omega)⟩:NdI w' (.slice (some ⟨g,o,none⟩) H kc) (.slice none 0 0) (.slice (some ⟨gk,ok,none⟩) (H+1) cc) ⟨false,n.keys.take H,[],n.kids.take (H+1)⟩))
  have HIB:=Lib.hid (fun(w':World) (hb:Below w.heap.size w w')=>(⟨(h.ks.below hb).drop (m:=H+1) (by omega) (by omega),IsI.nil _ _,(h.cs.below hb).drop (m:=H+1) (by omega) (by omega)⟩:NdI w' (.slice (some ⟨g,o+(H+1),none⟩) (n.keys.length - (H+1)) (kc - (H+1))) (.slice none 0 0) (.slice (some ⟨gk,ok+(H+1),none⟩) (n.kids.length - (H+1)) (cc - (H+1))) ⟨false,n.keys.drop (H+1),[],n.kids.drop (H+1)⟩))
  clear hH
  have HI:=Lib.hid h
  have HE:=Lib.hid e2
  have HL:=Lib.hid hl
  clear e1 e2 h
  unfold ndV
  rw[hl]
  go_enter Tryz.func185,Tryz.ntmps185
  go_wp2_with fail
  refine wp_name (fun W1 hW1=> ?_)
  have HB1:=Lib.hid (show Below w.heap.size w W1 by rw[←hW1];exact below_alloc (below_alloc (below_alloc (Below.refl _ _))))
  have HR0:=Lib.hid (show W1.rowIs w.heap.size 109 4 (ndF (.slice (some ⟨g,o,none⟩) n.keys.length kc) (.slice va n.vals.length vc) (.slice (some ⟨gk,ok,none⟩) n.kids.length cc) n) by
   rw[←hW1]
   have:=ndF_new w (.slice (some ⟨g,o,none⟩) n.keys.length kc) (.slice va n.vals.length vc) (.slice (some ⟨gk,ok,none⟩) n.kids.length cc) n
   rw[hl] at this
   exact rowIs_touch this (F:=[]) (((Touch.refl _ _).alloc _).alloc _) (by simp))
  have HR2:=Lib.hid (show W1.rowIs (w.heap.size+1) 109 4 (ndF (.slice none 0 0) (.slice none 0 0) (.slice none 0 0) nd0) by
   rw[←hW1]
   exact rowIs_touch (node0_row w _) (F:=[]) ((Touch.refl _ _).alloc _) (by simp))
  have HR4:=Lib.hid (show W1.rowIs (w.heap.size+1+1) 109 4 (ndF (.slice none 0 0) (.slice none 0 0) (.slice none 0 0) nd0) by
   rw[←hW1]
   have h:=node0_row (w.alloc (.cells #[.bool false, .slice (some ⟨g,o,none⟩) n.keys.length kc,(.slice va n.vals.length vc),(.slice (some ⟨gk,ok,none⟩) n.kids.length cc)] 109)) (.cells #[.bool false, .slice none 0 0, .slice none 0 0, .slice none 0 0] 109)
   rw[World.size_alloc_eq] at h
   exact h)
  obtain⟨c0,c1,c2,c3⟩:=ndF_cells HR0.out
  rw[hl] at c0
  have HG:=Lib.hid ((HB1.out.cell (p:=⟨g,o+H,none⟩) hg).trans hc)
  have HLT:=Lib.hid (show w.heap.size<W1.heap.size∧g<W1.heap.size from⟨World.rowIs.lt HR0.out,Nat.lt_of_lt_of_le hg HB1.out.size⟩)
  clear hW1
  have hS0:(fun w':World=>w'.cell? ⟨w.heap.size,0,none⟩=some (.bool false)∧w'.cell? ⟨w.heap.size,1,none⟩=some (.slice (some ⟨g,o,none⟩) n.keys.length kc)∧w'.cell? ⟨g,o+H,none⟩=some (.int .u64 KEY)) W1:=⟨c0,c1,HG.out⟩
  have HS0:=Lib.hid hS0
  have HSB:=Lib.hid (fun(w':World) (t:Touch [W1.heap.size,W1.heap.size+1] W1 w')=>(show(fun w':World=>w'.cell? ⟨w.heap.size,0,none⟩=some (.bool false)∧w'.cell? ⟨w.heap.size,1,none⟩=some (.slice (some ⟨g,o,none⟩) n.keys.length kc)∧w'.cell? ⟨g,o+H,none⟩=some (.int .u64 KEY)) w' from
   ⟨(t.cell (p:=⟨_,_,none⟩) HLT.out.1 (by have:=HLT.out;simp;omega)).trans hS0.1,(t.cell (p:=⟨_,_,none⟩) HLT.out.1 (by have:=HLT.out;simp;omega)).trans hS0.2.1,(t.cell (p:=⟨_,_,none⟩) HLT.out.2 (by have:=HLT.out;simp;omega)).trans hS0.2.2⟩))
  clear hS0
  refine wp_region_noPanic ?_
  refine wp_region_par 19 (by kernel_rfl) (by kernel_rfl) (by simp) (by kernel_rfl) (by kernel_rfl) (fun w':World=>w'.cell? ⟨w.heap.size,0,none⟩=some (.bool false)∧w'.cell? ⟨w.heap.size,1,none⟩=some (.slice (some ⟨g,o,none⟩) n.keys.length kc)∧w'.cell? ⟨g,o+H,none⟩=some (.int .u64 KEY)) (HSB.out _ (Touch.refl _ _).drew) ?_
  refine par_read (v:= ?_) 0 (by simp only[zga,zgb,zgc];rfl) (by kernel_rfl) (by rfl) ?_ (fun _ _ _ h=>h) ?_
  rotate_left
  ·(intro w9 hSw;(try dsimp only at hSw);go_simp;try with_reducible rfl)
  simp only[Act.put,zpa,zpb,zpc]
  refine par_read (v:= ?_) 1 (by simp only[zga,zgb,zgc];rfl) (by kernel_rfl) (by rfl) ?_ (fun _ _ _ h=>h) ?_
  rotate_left
  ·(intro w9 hSw;(try dsimp only at hSw);go_simp;try with_reducible rfl)
  simp only[Act.put,zpa,zpb,zpc]
  refine par_read (v:= ?_) 2 (by simp only[zga,zgb,zgc];rfl) (by kernel_rfl) (by rfl) ?_ (fun _ _ _ h=>h) ?_
  rotate_left
  ·(intro w9 hSw;(try dsimp only at hSw);go_simp;try with_reducible rfl)
  simp only[Act.put,zpa,zpb,zpc]
  refine par_read (v:= ?_) 3 (by simp only[zga,zgb,zgc];rfl) (by kernel_rfl) (by rfl) ?_ (fun _ _ _ h=>h) ?_
  rotate_left
  ·(intro w9 hSw;(try dsimp only at hSw);go_simp;try with_reducible rfl)
  simp only[Act.put,zpa,zpb,zpc]
  refine par_read (v:= ?_) 4 (by simp only[zga,zgb,zgc];rfl) (by kernel_rfl) (by rfl) ?_ (fun _ _ _ h=>h) ?_
  rotate_left
  ·(intro w9 hSw;(try dsimp only at hSw);go_simp;try with_reducible rfl)
  simp only[Act.put,zpa,zpb,zpc]
  refine par_read (v:= ?_) 5 (by simp only[zga,zgb,zgc];rfl) (by kernel_rfl) (by rfl) ?_ (fun _ _ _ h=>h) ?_
  rotate_left
  ·(intro w9 hSw;(try dsimp only at hSw);go_simp;try with_reducible rfl)
  simp only[Act.put,zpa,zpb,zpc]
  refine par_read (v:= ?_) 6 (by simp only[zga,zgb,zgc];rfl) (by kernel_rfl) (by rfl) ?_ (fun _ _ _ h=>h) ?_
  rotate_left
  ·(intro w9 hSw;(try dsimp only at hSw);go_simp;try with_reducible rfl)
  simp only[Act.put,zpa,zpb,zpc]
  refine par_read (v:= ?_) 7 (by simp only[zga,zgb,zgc];rfl) (by kernel_rfl) (by rfl) ?_ (fun _ _ _ h=>h) ?_
  rotate_left
  ·(intro w9 hSw;(try dsimp only at hSw);go_simp;try with_reducible rfl)
  simp only[Act.put,zpa,zpb,zpc]
  refine par_read (v:= ?_) 8 (by simp only[zga,zgb,zgc];rfl) (by kernel_rfl) (by rfl) ?_ (fun _ _ _ h=>h) ?_
  rotate_left
  ·(intro w9 hSw;(try dsimp only at hSw);go_simp;try with_reducible rfl)
  simp only[Act.put,zpa,zpb,zpc]
  refine par_read (v:= ?_) 9 (by simp only[zga,zgb,zgc];rfl) (by kernel_rfl) (by rfl) ?_ (fun _ _ _ h=>h) ?_
  rotate_left
  ·(intro w9 hSw;(try dsimp only at hSw);go_simp;try with_reducible rfl)
  simp only[Act.put,zpa,zpb,zpc]
  refine par_read (v:= ?_) 10 (by simp only[zga,zgb,zgc];rfl) (by kernel_rfl) (by rfl) ?_ (fun _ _ _ h=>h) ?_
  rotate_left
  ·(intro w9 hSw;(try dsimp only at hSw);go_simp;try with_reducible rfl)
  simp only[Act.put,zpa,zpb,zpc]
  refine par_read (v:= ?_) 11 (by simp only[zga,zgb,zgc];rfl) (by kernel_rfl) (by rfl) ?_ (fun _ _ _ h=>h) ?_
  rotate_left
  ·(intro w9 hSw;(try dsimp only at hSw);go_simp;try with_reducible rfl)
  simp only[Act.put,zpa,zpb,zpc]
  refine par_read (v:= ?_) 12 (by simp only[zga,zgb,zgc];rfl) (by kernel_rfl) (by rfl) ?_ (fun _ _ _ h=>h) ?_
  rotate_left
  ·(intro w9 hSw;(try dsimp only at hSw);go_simp;try with_reducible rfl)
  simp only[Act.put,zpa,zpb,zpc]
  refine par_read (v:= ?_) 13 (by simp only[zga,zgb,zgc];rfl) (by kernel_rfl) (by rfl) ?_ (fun _ _ _ h=>h) ?_
  rotate_left
  ·(intro w9 hSw;(try dsimp only at hSw);go_simp;try with_reducible rfl)
  simp only[Act.put,zpa,zpb,zpc]
  refine par_read (v:= ?_) 14 (by simp only[zga,zgb,zgc];rfl) (by kernel_rfl) (by rfl) ?_ (fun _ _ _ h=>h) ?_
  rotate_left
  ·(intro w9 hSw;(try dsimp only at hSw);go_simp;try with_reducible rfl)
  simp only[Act.put,zpa,zpb,zpc]
  refine par_two 15 16 (by simp only[zga,zgb,zgc];rfl) (by simp only[zga,zgb,zgc];rfl) (by kernel_rfl) (by rfl) (by rfl) ?_ ?_
  ·refine owp_val (v:= ?_) (w1:= ?_) ?_ ?_
   rotate_left 2
   ·(go_simp;constructor<;>rfl)
   refine⟨HSB.out _ ((Touch.refl _ _).drew.alloc _), ?_⟩
   simp only[Act.put,zpa,zpb,zpc]
   refine par_one 16 (by simp only[zga,zgb,zgc];rfl) (by kernel_rfl) (by rfl) ?_
   refine owp_val (v:= ?_) (w1:= ?_) ?_ ?_
   rotate_left 2
   ·(go_simp;constructor<;>rfl)
   refine⟨HSB.out _ (((Touch.refl _ _).drew.alloc _).alloc _), ?_⟩
   simp only[Act.put,zpa,zpb,zpc]
   refine par_one 17 (by simp only[zga,zgb,zgc];rfl) (by kernel_rfl) (by rfl) ?_
   refine owp_store_node (.tmp 6) (.tmp 19) rfl W1.heap.size false (.slice (some ⟨g,o,none⟩) H kc) (.slice none 0 0) (.slice none 0 0) ⟨false,n.keys.take H,[],[]⟩ rfl rfl rfl ((rows_two W1).1) (by simp[Value.oneCell']) ?_
   intro w5 hr5 t5
   have HR7:=Lib.hid (rowIs_touch ((rows_two W1).2) t5 (by simp))
   have HT5:=Lib.hid ((((Touch.refl [W1.heap.size,W1.heap.size+1] W1).drew.alloc _).alloc _).trans t5 (fun b hb=> .inl (by simp at hb ⊢;omega)))
   have HR5:=Lib.hid hr5
   refine⟨HSB.out _ HT5.out, ?_⟩
   clear hr5 t5
   simp only[Act.put,zpa,zpb,zpc]
   refine par_one 18 (by simp only[zga,zgb,zgc];rfl) (by kernel_rfl) (by rfl) ?_
   refine owp_store_node (.tmp 7) (.tmp 22) rfl (W1.heap.size+1) false (.slice none 0 0) (.slice none 0 0) (.slice none 0 0) ⟨false,[],[],[]⟩ rfl rfl rfl HR7.out (by simp[Value.oneCell']) ?_
   intro w6 hr6 t6
   have HR6:=Lib.hid (rowIs_touch HR5.out t6 (by simp))
   have HT6:=Lib.hid (HT5.out.trans t6 (fun b hb=> .inl (by simp at hb ⊢;omega)))
   have HS6:=Lib.hid hr6
   refine⟨HSB.out _ HT6.out, ?_⟩
   clear hr6 t6 HT5 HR5 HR7
   simp only[Act.put,zpa,zpb,zpc]
   refine par_tail _ (by simp only[List.drop_succ_cons,List.drop_zero];rfl) (by kernel_rfl) ?_
   go_wp2_with fail
   refine NoPanic.normal ?_
   clear c0 c1 c2 c3
   have HB6:=Lib.hid (HB1.out.trans (HT6.out.below (Nat.le_of_lt HLT.out.1) (fun x hx=>by simp at hx;have:=HLT.out.1;omega)))
   have HQ0:=Lib.hid (rowIs_touch HR0.out HT6.out (by have:=HLT.out.1;simp;omega))
   have HQ2:=Lib.hid (rowIs_touch HR2.out HT6.out (by have:=World.rowIs.lt HR2.out;simp;omega))
   have HQ4:=Lib.hid (rowIs_touch HR4.out HT6.out (by have:=World.rowIs.lt HR4.out;simp;omega))
   have HN6:=Lib.hid (HI.out.below HB6.out)
   have HNE:=Lib.hid (show w.heap.size+1+1<W1.heap.size from World.rowIs.lt HR4.out)
   clear HR0 HR2 HR4 HT6 HSB HS0
   obtain⟨c0,c1,c2,c3⟩:=ndF_cells HQ0.out
   rw[hl] at c0
   obtain⟨a0,a1,a2,a3⟩:=ndF_cells HR6.out
   obtain⟨b0,b1,b2,b3⟩:=ndF_cells HS6.out
   have fa:=fun i=>World.rowIs.frozen HR6.out i
   have fb:=fun i=>World.rowIs.frozen HS6.out i
   go_wp2_with fail
   have hS6:(fun w':World=>w'.cell? ⟨w.heap.size,1,none⟩=some (.slice (some ⟨g,o,none⟩) n.keys.length kc)∧w'.cell? ⟨w.heap.size,3,none⟩=some (.slice (some ⟨gk,ok,none⟩) n.kids.length cc)) w6:=⟨c1,c3⟩
   have hlt6:=World.rowIs.lt HQ0.out
   have HSB6:=Lib.hid (fun(w':World) (t:Touch [W1.heap.size,W1.heap.size+1] w6 w')=>(show(fun w':World=>w'.cell? ⟨w.heap.size,1,none⟩=some (.slice (some ⟨g,o,none⟩) n.keys.length kc)∧w'.cell? ⟨w.heap.size,3,none⟩=some (.slice (some ⟨gk,ok,none⟩) n.kids.length cc)) w' from
    ⟨(t.cell (p:=⟨_,_,none⟩) hlt6 (by have:=HNE.out;simp;omega)).trans hS6.1,(t.cell (p:=⟨_,_,none⟩) hlt6 (by have:=HNE.out;simp;omega)).trans hS6.2⟩))
   clear hS6 hlt6
   refine wp_region_noPanic ?_
   refine wp_region_par 20 (by kernel_rfl) (by kernel_rfl) (by simp) (by kernel_rfl) (by kernel_rfl) (fun w':World=>w'.cell? ⟨w.heap.size,1,none⟩=some (.slice (some ⟨g,o,none⟩) n.keys.length kc)∧w'.cell? ⟨w.heap.size,3,none⟩=some (.slice (some ⟨gk,ok,none⟩) n.kids.length cc)) (HSB6.out _ (Touch.refl _ _).drew) ?_
   refine par_read (v:= ?_) 0 (by simp only[zga,zgb,zgc];rfl) (by kernel_rfl) (by rfl) ?_ (fun _ _ _ h=>h) ?_
   rotate_left
   ·(intro w9 hSw;(try dsimp only at hSw);go_simp;try with_reducible rfl)
   simp only[Act.put,zpa,zpb,zpc]
   refine par_read (v:= ?_) 1 (by simp only[zga,zgb,zgc];rfl) (by kernel_rfl) (by rfl) ?_ (fun _ _ _ h=>h) ?_
   rotate_left
   ·(intro w9 hSw;(try dsimp only at hSw);go_simp;try with_reducible rfl)
   simp only[Act.put,zpa,zpb,zpc]
   refine par_read (v:= ?_) 2 (by simp only[zga,zgb,zgc];rfl) (by kernel_rfl) (by rfl) ?_ (fun _ _ _ h=>h) ?_
   rotate_left
   ·(intro w9 hSw;(try dsimp only at hSw);go_simp;try with_reducible rfl)
   simp only[Act.put,zpa,zpb,zpc]
   refine par_read (v:= ?_) 3 (by simp only[zga,zgb,zgc];rfl) (by kernel_rfl) (by rfl) ?_ (fun _ _ _ h=>h) ?_
   rotate_left
   ·(intro w9 hSw;(try dsimp only at hSw);go_simp;try with_reducible rfl)
   simp only[Act.put,zpa,zpb,zpc]
   refine par_read (v:= ?_) 4 (by simp only[zga,zgb,zgc];rfl) (by kernel_rfl) (by rfl) ?_ (fun _ _ _ h=>h) ?_
   rotate_left
   ·(intro w9 hSw;(try dsimp only at hSw);go_simp;try with_reducible rfl)
   simp only[Act.put,zpa,zpb,zpc]
   refine par_read (v:= ?_) 5 (by simp only[zga,zgb,zgc];rfl) (by kernel_rfl) (by rfl) ?_ (fun _ _ _ h=>h) ?_
   rotate_left
   ·(intro w9 hSw;(try dsimp only at hSw);go_simp;try with_reducible rfl)
   simp only[Act.put,zpa,zpb,zpc]
   refine par_read (v:= ?_) 6 (by simp only[zga,zgb,zgc];rfl) (by kernel_rfl) (by rfl) ?_ (fun _ _ _ h=>h) ?_
   rotate_left
   ·(intro w9 hSw;(try dsimp only at hSw);go_simp;try with_reducible rfl)
   simp only[Act.put,zpa,zpb,zpc]
   refine par_read (v:= ?_) 7 (by simp only[zga,zgb,zgc];rfl) (by kernel_rfl) (by rfl) ?_ (fun _ _ _ h=>h) ?_
   rotate_left
   ·(intro w9 hSw;(try dsimp only at hSw);go_simp;try with_reducible rfl)
   simp only[Act.put,zpa,zpb,zpc]
   refine par_read (v:= ?_) 8 (by simp only[zga,zgb,zgc];rfl) (by kernel_rfl) (by rfl) ?_ (fun _ _ _ h=>h) ?_
   rotate_left
   ·(intro w9 hSw;(try dsimp only at hSw);go_simp;try with_reducible rfl)
   simp only[Act.put,zpa,zpb,zpc]
   refine par_read (v:= ?_) 9 (by simp only[zga,zgb,zgc];rfl) (by kernel_rfl) (by rfl) ?_ (fun _ _ _ h=>h) ?_
   rotate_left
   ·(intro w9 hSw;(try dsimp only at hSw);go_simp;try with_reducible rfl)
   simp only[Act.put,zpa,zpb,zpc]
   refine par_read (v:= ?_) 10 (by simp only[zga,zgb,zgc];rfl) (by kernel_rfl) (by rfl) ?_ (fun _ _ _ h=>h) ?_
   rotate_left
   ·(intro w9 hSw;(try dsimp only at hSw);go_simp;try with_reducible rfl)
   simp only[Act.put,zpa,zpb,zpc]
   refine par_read (v:= ?_) 11 (by simp only[zga,zgb,zgc];rfl) (by kernel_rfl) (by rfl) ?_ (fun _ _ _ h=>h) ?_
   rotate_left
   ·(intro w9 hSw;(try dsimp only at hSw);go_simp;try with_reducible rfl)
   simp only[Act.put,zpa,zpb,zpc]
   refine par_read (v:= ?_) 12 (by simp only[zga,zgb,zgc];rfl) (by kernel_rfl) (by rfl) ?_ (fun _ _ _ h=>h) ?_
   rotate_left
   ·(intro w9 hSw;(try dsimp only at hSw);go_simp;try with_reducible rfl)
   simp only[Act.put,zpa,zpb,zpc]
   refine par_read (v:= ?_) 13 (by simp only[zga,zgb,zgc];rfl) (by kernel_rfl) (by rfl) ?_ (fun _ _ _ h=>h) ?_
   rotate_left
   ·(intro w9 hSw;(try dsimp only at hSw);go_simp;try with_reducible rfl)
   simp only[Act.put,zpa,zpb,zpc]
   refine par_read (v:= ?_) 14 (by simp only[zga,zgb,zgc];rfl) (by kernel_rfl) (by rfl) ?_ (fun _ _ _ h=>h) ?_
   rotate_left
   ·(intro w9 hSw;(try dsimp only at hSw);go_simp;try with_reducible rfl)
   simp only[Act.put,zpa,zpb,zpc]
   refine par_read (v:= ?_) 15 (by simp only[zga,zgb,zgc];rfl) (by kernel_rfl) (by rfl) ?_ (fun _ _ _ h=>h) ?_
   rotate_left
   ·(intro w9 hSw;(try dsimp only at hSw);go_simp;try with_reducible rfl)
   simp only[Act.put,zpa,zpb,zpc]
   refine par_one 16 (by simp only[zga,zgb,zgc];rfl) (by kernel_rfl) (by rfl) ?_
   refine owp_skip (w1:= ?_) ?_ ?_
   rotate_left
   ·(go_simp;first|rfl|(constructor<;>rfl))
   refine⟨HSB6.out _ ((Touch.refl _ _).drew.setCell (.inl (by simp)) _), ?_⟩
   simp only[Act.put,zpa,zpb,zpc]
   refine par_read (v:= ?_) 17 (by simp only[zga,zgb,zgc];rfl) (by kernel_rfl) (by rfl) ?_ (fun _ _ _ h=>h) ?_
   rotate_left
   ·(intro w9 hSw;(try dsimp only at hSw);go_simp;try with_reducible rfl)
   simp only[Act.put,zpa,zpb,zpc]
   refine par_one 18 (by simp only[zga,zgb,zgc];rfl) (by kernel_rfl) (by rfl) ?_
   refine owp_skip (w1:= ?_) ?_ ?_
   rotate_left
   ·(go_simp;first|rfl|(constructor<;>rfl))
   refine⟨HSB6.out _ (((Touch.refl _ _).drew.setCell (.inl (by simp)) _).setCell (.inl (by simp)) _), ?_⟩
   simp only[Act.put,zpa,zpb,zpc]
   refine par_read (v:= ?_) 19 (by simp only[zga,zgb,zgc];rfl) (by kernel_rfl) (by rfl) ?_ (fun _ _ _ h=>h) ?_
   rotate_left
   ·(intro w9 hSw;(try dsimp only at hSw);go_simp;try with_reducible rfl)
   simp only[Act.put,zpa,zpb,zpc]
   refine par_tail _ (by simp only[List.drop_succ_cons,List.drop_zero];rfl) (by kernel_rfl) ?_
   go_wp2_with fail
   refine NoPanic.normal ?_
   clear HSB6
   go_wp2_with fail
   refine wp_name (fun W8 hW8=> ?_)
   have HR8:=Lib.hid (show W8.rowIs W1.heap.size 109 4 (ndF (.slice (some ⟨g,o,none⟩) H kc) (.slice none 0 0) (.slice (some ⟨gk,ok,none⟩) (H+1) cc) (⟨false,n.keys.take H,[],n.kids.take (H+1)⟩:ND)) by
    rw[←hW8]
    refine World.rowIs.congr ((((show w6.drew.rowIs _ _ _ _ from HR6.out).set 3 _).setOther (by simp) _).setOther (by simp) _) (fun j hj=> ?_)
    rcases j with _|_|_|_|j<;>first|rfl|(exfalso;omega))
   have HS8:=Lib.hid (show W8.rowIs (W1.heap.size+1) 109 4 (ndF (.slice (some ⟨g,o+(H+1),none⟩) (n.keys.length-(H+1)) (kc-(H+1))) (.slice none 0 0) (.slice (some ⟨gk,ok+(H+1),none⟩) (n.kids.length-(H+1)) (cc-(H+1))) (⟨false,n.keys.drop (H+1),[],n.kids.drop (H+1)⟩:ND)) by
    rw[←hW8]
    refine World.rowIs.congr ((((show w6.drew.rowIs _ _ _ _ from HS6.out).setOther (by simp) _).set 1 _).set 3 _) (fun j hj=> ?_)
    rcases j with _|_|_|_|j<;>first|rfl|(exfalso;omega))
   have HT8:=Lib.hid (show Touch [W1.heap.size,W1.heap.size+1] w6 W8 by
    rw[←hW8]
    exact(((Touch.refl _ _).drew.setCell (.inl (by simp)) _).setCell (.inl (by simp)) _).setCell (.inl (by simp)) _)
   have HB8:=Lib.hid (HB6.out.trans (HT8.out.below HB6.out.size (fun x hx=>by simp at hx;have:=HNE.out;omega)))
   have HP2:=Lib.hid (rowIs_touch HQ2.out HT8.out (by have:=HNE.out;simp;omega))
   have HP4:=Lib.hid (rowIs_touch HQ4.out HT8.out (by have:=HNE.out;simp;omega))
   clear hW8 a0 a1 a2 a3 b0 b1 b2 b3 c0 c1 c2 c3 fa fb HQ0 HQ2 HQ4 HR6 HS6 HN6
   obtain⟨a0,a1,a2,a3⟩:=ndF_cells HR8.out
   obtain⟨b0,b1,b2,b3⟩:=ndF_cells HS8.out
   have a0:W8.cell? ⟨W1.heap.size,0,none⟩=some (.bool false):=a0
   have b0:W8.cell? ⟨(W1.heap.size+1),0,none⟩=some (.bool false):=b0
   have hS8:(fun w':World=>(w'.cell? ⟨W1.heap.size,0,none⟩=some (.bool false)∧w'.cell? ⟨W1.heap.size,1,none⟩=some (.slice (some ⟨g,o,none⟩) H kc)∧w'.cell? ⟨W1.heap.size,2,none⟩=some (.slice none 0 0)∧w'.cell? ⟨W1.heap.size,3,none⟩=some (.slice (some ⟨gk,ok,none⟩) (H+1) cc))∧w'.cell? ⟨(W1.heap.size+1),0,none⟩=some (.bool false)∧w'.cell? ⟨(W1.heap.size+1),1,none⟩=some (.slice (some ⟨g,o+(H+1),none⟩) (n.keys.length-(H+1)) (kc-(H+1)))∧w'.cell? ⟨(W1.heap.size+1),2,none⟩=some (.slice none 0 0)∧w'.cell? ⟨(W1.heap.size+1),3,none⟩=some (.slice (some ⟨gk,ok+(H+1),none⟩) (n.kids.length-(H+1)) (cc-(H+1)))) W8:=⟨⟨a0,a1,a2,a3⟩,b0,b1,b2,b3⟩
   have HSB8:=Lib.hid (fun(w':World) (t:Touch [w.heap.size+1,w.heap.size+1+1] W8 w')=>(show(fun w':World=>(w'.cell? ⟨W1.heap.size,0,none⟩=some (.bool false)∧w'.cell? ⟨W1.heap.size,1,none⟩=some (.slice (some ⟨g,o,none⟩) H kc)∧w'.cell? ⟨W1.heap.size,2,none⟩=some (.slice none 0 0)∧w'.cell? ⟨W1.heap.size,3,none⟩=some (.slice (some ⟨gk,ok,none⟩) (H+1) cc))∧w'.cell? ⟨(W1.heap.size+1),0,none⟩=some (.bool false)∧w'.cell? ⟨(W1.heap.size+1),1,none⟩=some (.slice (some ⟨g,o+(H+1),none⟩) (n.keys.length-(H+1)) (kc-(H+1)))∧w'.cell? ⟨(W1.heap.size+1),2,none⟩=some (.slice none 0 0)∧w'.cell? ⟨(W1.heap.size+1),3,none⟩=some (.slice (some ⟨gk,ok+(H+1),none⟩) (n.kids.length-(H+1)) (cc-(H+1)))) w' from by
    have k: ∀i,w'.cell? ⟨W1.heap.size,i,none⟩=W8.cell? ⟨W1.heap.size,i,none⟩∧w'.cell? ⟨(W1.heap.size+1),i,none⟩=W8.cell? ⟨(W1.heap.size+1),i,none⟩:=fun i=>⟨t.cell (p:=⟨_,_,none⟩) (World.rowIs.lt HR8.out) (by have:=HNE.out;simp;omega),t.cell (p:=⟨_,_,none⟩) (World.rowIs.lt HS8.out) (by have:=HNE.out;simp;omega)⟩
    exact⟨⟨(k 0).1.trans a0,(k 1).1.trans a1,(k 2).1.trans a2,(k 3).1.trans a3⟩,(k 0).2.trans b0,(k 1).2.trans b1,(k 2).2.trans b2,(k 3).2.trans b3⟩))
   clear hS8
   refine wp_region_noPanic ?_
   refine wp_region_par 5 (by kernel_rfl) (by kernel_rfl) (by simp) (by kernel_rfl) (by kernel_rfl) (fun w':World=>(w'.cell? ⟨W1.heap.size,0,none⟩=some (.bool false)∧w'.cell? ⟨W1.heap.size,1,none⟩=some (.slice (some ⟨g,o,none⟩) H kc)∧w'.cell? ⟨W1.heap.size,2,none⟩=some (.slice none 0 0)∧w'.cell? ⟨W1.heap.size,3,none⟩=some (.slice (some ⟨gk,ok,none⟩) (H+1) cc))∧w'.cell? ⟨(W1.heap.size+1),0,none⟩=some (.bool false)∧w'.cell? ⟨(W1.heap.size+1),1,none⟩=some (.slice (some ⟨g,o+(H+1),none⟩) (n.keys.length-(H+1)) (kc-(H+1)))∧w'.cell? ⟨(W1.heap.size+1),2,none⟩=some (.slice none 0 0)∧w'.cell? ⟨(W1.heap.size+1),3,none⟩=some (.slice (some ⟨gk,ok+(H+1),none⟩) (n.kids.length-(H+1)) (cc-(H+1)))) (HSB8.out _ (Touch.refl _ _).drew) ?_
   refine par_read (v:= ?_) 0 (by simp only[zga,zgb,zgc];rfl) (by kernel_rfl) (by rfl) ?_ (fun _ _ _ h=>h) ?_
   rotate_left
   ·(intro w9 hSw;(try dsimp only at hSw);go_simp;try with_reducible rfl)
   simp only[Act.put,zpa,zpb,zpc]
   refine par_read (v:= ?_) 1 (by simp only[zga,zgb,zgc];rfl) (by kernel_rfl) (by rfl) ?_ (fun _ _ _ h=>h) ?_
   rotate_left
   ·(intro w9 hSw;(try dsimp only at hSw);go_simp;try with_reducible rfl)
   simp only[Act.put,zpa,zpb,zpc]
   refine par_read (v:= ?_) 2 (by simp only[zga,zgb,zgc];rfl) (by kernel_rfl) (by rfl) ?_ (fun _ _ _ h=>h) ?_
   rotate_left
   ·(intro w9 hSw;(try dsimp only at hSw);go_simp;try with_reducible rfl)
   simp only[Act.put,zpa,zpb,zpc]
   refine par_one 3 (by simp only[zga,zgb,zgc];rfl) (by kernel_rfl) (by rfl) ?_
   refine owp_store_node (.tmp 2) (.tmp 63) rfl (w.heap.size+1) false (.slice (some ⟨g,o,none⟩) H kc) (.slice none 0 0) (.slice (some ⟨gk,ok,none⟩) (H+1) cc) (⟨false,n.keys.take H,[],n.kids.take (H+1)⟩:ND) rfl rfl rfl (show W8.drew.rowIs _ _ _ _ from HP2.out) (by simp[Value.oneCell']) ?_
   intro w10 hr10 t10
   have HRA:=Lib.hid hr10
   have HTA:=Lib.hid (show Touch [w.heap.size+1] W8 w10 from(Touch.refl [w.heap.size+1] W8).drew.trans t10 (fun b hb=> .inl hb))
   clear hr10 t10
   refine⟨HSB8.out _ (HTA.out.mono (fun b hb=> .inl (by simp at hb;simp[hb]))), ?_⟩
   simp only[Act.put,zpa,zpb,zpc]
   refine par_one 4 (by simp only[zga,zgb,zgc];rfl) (by kernel_rfl) (by rfl) ?_
   refine owp_val (v:= ?_) (w1:= ?_) ?_ ?_
   rotate_left 2
   ·(go_simp;first|done|(constructor<;>rfl))
   refine⟨HSB8.out _ (HTA.out.mono (fun b hb=> .inl (by simp at hb;simp[hb]))), ?_⟩
   simp only[Act.put,zpa,zpb,zpc]
   refine par_tail _ (by simp only[List.drop_succ_cons,List.drop_zero];rfl) (by kernel_rfl) ?_
   go_wp2_with (refine wpList_store_node rfl (.tmp 4) (.tmp 65) rfl (w.heap.size+1+1) false (.slice (some ⟨g,o+(H+1),none⟩) (n.keys.length-(H+1)) (kc-(H+1))) (.slice none 0 0) (.slice (some ⟨gk,ok+(H+1),none⟩) (n.kids.length-(H+1)) (cc-(H+1))) (⟨false,n.keys.drop (H+1),[],n.kids.drop (H+1)⟩:ND) rfl rfl rfl (rowIs_touch HP4.out HTA.out (by simp)) (by simp[Value.oneCell']) ?_;intro w11 hr11 t11;have HRB:=Lib.hid hr11;have HTB:=Lib.hid t11;clear hr11 t11)
   refine NoPanic.normal ?_
   go_wp2_with fail
   refine bodyPost_ret_by (res_node3 Tryz.results185 rfl rfl (rowIs_touch HRA.out HTB.out (by simp)) HRB.out) rfl ?_
   have hb11:=HB8.out.trans (((Touch.refl [w.heap.size+1,w.heap.size+1+1] W8).trans HTA.out (fun b hb=> .inl (by simp at hb ⊢;exact .inl hb))).trans HTB.out (fun b hb=> .inl (by simp at hb ⊢;exact .inr hb)) |>.below HB8.out.size (fun x hx=>by simp at hx;omega))
   refine⟨_,_,_,_,_,_,by rw[HA.out,HBB.out,HKK.out];rfl, ?_, ?_, ?_, ?_,hb11⟩
   ·rw[HA.out]
    exact HIA.out _ hb11
   ·rw[HBB.out]
    exact HIB.out _ hb11
   ·intro g9 hg9
    simp[ndBk,blkOf] at hg9 ⊢
    exact hg9.imp id (fun h=>by simp[h])
   ·intro g9 hg9
    simp[ndBk,blkOf] at hg9 ⊢
    exact hg9.imp id (fun h=>by simp[h])
  ·refine owp_val (v:= ?_) (w1:= ?_) ?_ ?_
   rotate_left 2
   ·(go_simp;constructor<;>rfl)
   refine⟨HSB.out _ ((Touch.refl _ _).drew.alloc _), ?_⟩
   simp only[Act.put,zpa,zpb,zpc]
   refine par_one 15 (by simp only[zga,zgb,zgc];rfl) (by kernel_rfl) (by rfl) ?_
   refine owp_val (v:= ?_) (w1:= ?_) ?_ ?_
   rotate_left 2
   ·(go_simp;constructor<;>rfl)
   refine⟨HSB.out _ (((Touch.refl _ _).drew.alloc _).alloc _), ?_⟩
   simp only[Act.put,zpa,zpb,zpc]
   refine par_one 17 (by simp only[zga,zgb,zgc];rfl) (by kernel_rfl) (by rfl) ?_
   refine owp_store_node (.tmp 6) (.tmp 19) rfl (W1.heap.size+1) false (.slice (some ⟨g,o,none⟩) H kc) (.slice none 0 0) (.slice none 0 0) ⟨false,n.keys.take H,[],[]⟩ rfl rfl rfl ((rows_two W1).2) (by simp[Value.oneCell']) ?_
   intro w5 hr5 t5
   have HR7:=Lib.hid (rowIs_touch ((rows_two W1).1) t5 (by simp))
   have HT5:=Lib.hid ((((Touch.refl [W1.heap.size,W1.heap.size+1] W1).drew.alloc _).alloc _).trans t5 (fun b hb=> .inl (by simp at hb ⊢;omega)))
   have HR5:=Lib.hid hr5
   refine⟨HSB.out _ HT5.out, ?_⟩
   clear hr5 t5
   simp only[Act.put,zpa,zpb,zpc]
   refine par_one 18 (by simp only[zga,zgb,zgc];rfl) (by kernel_rfl) (by rfl) ?_
   refine owp_store_node (.tmp 7) (.tmp 22) rfl W1.heap.size false (.slice none 0 0) (.slice none 0 0) (.slice none 0 0) ⟨false,[],[],[]⟩ rfl rfl rfl HR7.out (by simp[Value.oneCell']) ?_
   intro w6 hr6 t6
   have HR6:=Lib.hid (rowIs_touch HR5.out t6 (by simp))
   have HT6:=Lib.hid (HT5.out.trans t6 (fun b hb=> .inl (by simp at hb ⊢;omega)))
   have HS6:=Lib.hid hr6
   refine⟨HSB.out _ HT6.out, ?_⟩
   clear hr6 t6 HT5 HR5 HR7
   simp only[Act.put,zpa,zpb,zpc]
   refine par_tail _ (by simp only[List.drop_succ_cons,List.drop_zero];rfl) (by kernel_rfl) ?_
   go_wp2_with fail
   refine NoPanic.normal ?_
   clear c0 c1 c2 c3
   have HB6:=Lib.hid (HB1.out.trans (HT6.out.below (Nat.le_of_lt HLT.out.1) (fun x hx=>by simp at hx;have:=HLT.out.1;omega)))
   have HQ0:=Lib.hid (rowIs_touch HR0.out HT6.out (by have:=HLT.out.1;simp;omega))
   have HQ2:=Lib.hid (rowIs_touch HR2.out HT6.out (by have:=World.rowIs.lt HR2.out;simp;omega))
   have HQ4:=Lib.hid (rowIs_touch HR4.out HT6.out (by have:=World.rowIs.lt HR4.out;simp;omega))
   have HN6:=Lib.hid (HI.out.below HB6.out)
   have HNE:=Lib.hid (show w.heap.size+1+1<W1.heap.size from World.rowIs.lt HR4.out)
   clear HR0 HR2 HR4 HT6 HSB HS0
   obtain⟨c0,c1,c2,c3⟩:=ndF_cells HQ0.out
   rw[hl] at c0
   obtain⟨a0,a1,a2,a3⟩:=ndF_cells HR6.out
   obtain⟨b0,b1,b2,b3⟩:=ndF_cells HS6.out
   have fa:=fun i=>World.rowIs.frozen HR6.out i
   have fb:=fun i=>World.rowIs.frozen HS6.out i
   go_wp2_with fail
   have hS6:(fun w':World=>w'.cell? ⟨w.heap.size,1,none⟩=some (.slice (some ⟨g,o,none⟩) n.keys.length kc)∧w'.cell? ⟨w.heap.size,3,none⟩=some (.slice (some ⟨gk,ok,none⟩) n.kids.length cc)) w6:=⟨c1,c3⟩
   have hlt6:=World.rowIs.lt HQ0.out
   have HSB6:=Lib.hid (fun(w':World) (t:Touch [W1.heap.size,W1.heap.size+1] w6 w')=>(show(fun w':World=>w'.cell? ⟨w.heap.size,1,none⟩=some (.slice (some ⟨g,o,none⟩) n.keys.length kc)∧w'.cell? ⟨w.heap.size,3,none⟩=some (.slice (some ⟨gk,ok,none⟩) n.kids.length cc)) w' from
    ⟨(t.cell (p:=⟨_,_,none⟩) hlt6 (by have:=HNE.out;simp;omega)).trans hS6.1,(t.cell (p:=⟨_,_,none⟩) hlt6 (by have:=HNE.out;simp;omega)).trans hS6.2⟩))
   clear hS6 hlt6
   refine wp_region_noPanic ?_
   refine wp_region_par 20 (by kernel_rfl) (by kernel_rfl) (by simp) (by kernel_rfl) (by kernel_rfl) (fun w':World=>w'.cell? ⟨w.heap.size,1,none⟩=some (.slice (some ⟨g,o,none⟩) n.keys.length kc)∧w'.cell? ⟨w.heap.size,3,none⟩=some (.slice (some ⟨gk,ok,none⟩) n.kids.length cc)) (HSB6.out _ (Touch.refl _ _).drew) ?_
   refine par_read (v:= ?_) 0 (by simp only[zga,zgb,zgc];rfl) (by kernel_rfl) (by rfl) ?_ (fun _ _ _ h=>h) ?_
   rotate_left
   ·(intro w9 hSw;(try dsimp only at hSw);go_simp;try with_reducible rfl)
   simp only[Act.put,zpa,zpb,zpc]
   refine par_read (v:= ?_) 1 (by simp only[zga,zgb,zgc];rfl) (by kernel_rfl) (by rfl) ?_ (fun _ _ _ h=>h) ?_
   rotate_left
   ·(intro w9 hSw;(try dsimp only at hSw);go_simp;try with_reducible rfl)
   simp only[Act.put,zpa,zpb,zpc]
   refine par_read (v:= ?_) 2 (by simp only[zga,zgb,zgc];rfl) (by kernel_rfl) (by rfl) ?_ (fun _ _ _ h=>h) ?_
   rotate_left
   ·(intro w9 hSw;(try dsimp only at hSw);go_simp;try with_reducible rfl)
   simp only[Act.put,zpa,zpb,zpc]
   refine par_read (v:= ?_) 3 (by simp only[zga,zgb,zgc];rfl) (by kernel_rfl) (by rfl) ?_ (fun _ _ _ h=>h) ?_
   rotate_left
   ·(intro w9 hSw;(try dsimp only at hSw);go_simp;try with_reducible rfl)
   simp only[Act.put,zpa,zpb,zpc]
   refine par_read (v:= ?_) 4 (by simp only[zga,zgb,zgc];rfl) (by kernel_rfl) (by rfl) ?_ (fun _ _ _ h=>h) ?_
   rotate_left
   ·(intro w9 hSw;(try dsimp only at hSw);go_simp;try with_reducible rfl)
   simp only[Act.put,zpa,zpb,zpc]
   refine par_read (v:= ?_) 5 (by simp only[zga,zgb,zgc];rfl) (by kernel_rfl) (by rfl) ?_ (fun _ _ _ h=>h) ?_
   rotate_left
   ·(intro w9 hSw;(try dsimp only at hSw);go_simp;try with_reducible rfl)
   simp only[Act.put,zpa,zpb,zpc]
   refine par_read (v:= ?_) 6 (by simp only[zga,zgb,zgc];rfl) (by kernel_rfl) (by rfl) ?_ (fun _ _ _ h=>h) ?_
   rotate_left
   ·(intro w9 hSw;(try dsimp only at hSw);go_simp;try with_reducible rfl)
   simp only[Act.put,zpa,zpb,zpc]
   refine par_read (v:= ?_) 7 (by simp only[zga,zgb,zgc];rfl) (by kernel_rfl) (by rfl) ?_ (fun _ _ _ h=>h) ?_
   rotate_left
   ·(intro w9 hSw;(try dsimp only at hSw);go_simp;try with_reducible rfl)
   simp only[Act.put,zpa,zpb,zpc]
   refine par_read (v:= ?_) 8 (by simp only[zga,zgb,zgc];rfl) (by kernel_rfl) (by rfl) ?_ (fun _ _ _ h=>h) ?_
   rotate_left
   ·(intro w9 hSw;(try dsimp only at hSw);go_simp;try with_reducible rfl)
   simp only[Act.put,zpa,zpb,zpc]
   refine par_read (v:= ?_) 9 (by simp only[zga,zgb,zgc];rfl) (by kernel_rfl) (by rfl) ?_ (fun _ _ _ h=>h) ?_
   rotate_left
   ·(intro w9 hSw;(try dsimp only at hSw);go_simp;try with_reducible rfl)
   simp only[Act.put,zpa,zpb,zpc]
   refine par_read (v:= ?_) 10 (by simp only[zga,zgb,zgc];rfl) (by kernel_rfl) (by rfl) ?_ (fun _ _ _ h=>h) ?_
   rotate_left
   ·(intro w9 hSw;(try dsimp only at hSw);go_simp;try with_reducible rfl)
   simp only[Act.put,zpa,zpb,zpc]
   refine par_read (v:= ?_) 11 (by simp only[zga,zgb,zgc];rfl) (by kernel_rfl) (by rfl) ?_ (fun _ _ _ h=>h) ?_
   rotate_left
   ·(intro w9 hSw;(try dsimp only at hSw);go_simp;try with_reducible rfl)
   simp only[Act.put,zpa,zpb,zpc]
   refine par_read (v:= ?_) 12 (by simp only[zga,zgb,zgc];rfl) (by kernel_rfl) (by rfl) ?_ (fun _ _ _ h=>h) ?_
   rotate_left
   ·(intro w9 hSw;(try dsimp only at hSw);go_simp;try with_reducible rfl)
   simp only[Act.put,zpa,zpb,zpc]
   refine par_read (v:= ?_) 13 (by simp only[zga,zgb,zgc];rfl) (by kernel_rfl) (by rfl) ?_ (fun _ _ _ h=>h) ?_
   rotate_left
   ·(intro w9 hSw;(try dsimp only at hSw);go_simp;try with_reducible rfl)
   simp only[Act.put,zpa,zpb,zpc]
   refine par_read (v:= ?_) 14 (by simp only[zga,zgb,zgc];rfl) (by kernel_rfl) (by rfl) ?_ (fun _ _ _ h=>h) ?_
   rotate_left
   ·(intro w9 hSw;(try dsimp only at hSw);go_simp;try with_reducible rfl)
   simp only[Act.put,zpa,zpb,zpc]
   refine par_read (v:= ?_) 15 (by simp only[zga,zgb,zgc];rfl) (by kernel_rfl) (by rfl) ?_ (fun _ _ _ h=>h) ?_
   rotate_left
   ·(intro w9 hSw;(try dsimp only at hSw);go_simp;try with_reducible rfl)
   simp only[Act.put,zpa,zpb,zpc]
   refine par_one 16 (by simp only[zga,zgb,zgc];rfl) (by kernel_rfl) (by rfl) ?_
   refine owp_skip (w1:= ?_) ?_ ?_
   rotate_left
   ·(go_simp;first|rfl|(constructor<;>rfl))
   refine⟨HSB6.out _ ((Touch.refl _ _).drew.setCell (.inl (by simp)) _), ?_⟩
   simp only[Act.put,zpa,zpb,zpc]
   refine par_read (v:= ?_) 17 (by simp only[zga,zgb,zgc];rfl) (by kernel_rfl) (by rfl) ?_ (fun _ _ _ h=>h) ?_
   rotate_left
   ·(intro w9 hSw;(try dsimp only at hSw);go_simp;try with_reducible rfl)
   simp only[Act.put,zpa,zpb,zpc]
   refine par_one 18 (by simp only[zga,zgb,zgc];rfl) (by kernel_rfl) (by rfl) ?_
   refine owp_skip (w1:= ?_) ?_ ?_
   rotate_left
   ·(go_simp;first|rfl|(constructor<;>rfl))
   refine⟨HSB6.out _ (((Touch.refl _ _).drew.setCell (.inl (by simp)) _).setCell (.inl (by simp)) _), ?_⟩
   simp only[Act.put,zpa,zpb,zpc]
   refine par_read (v:= ?_) 19 (by simp only[zga,zgb,zgc];rfl) (by kernel_rfl) (by rfl) ?_ (fun _ _ _ h=>h) ?_
   rotate_left
   ·(intro w9 hSw;(try dsimp only at hSw);go_simp;try with_reducible rfl)
   simp only[Act.put,zpa,zpb,zpc]
   refine par_tail _ (by simp only[List.drop_succ_cons,List.drop_zero];rfl) (by kernel_rfl) ?_
   go_wp2_with fail
   refine NoPanic.normal ?_
   clear HSB6
   go_wp2_with fail
   refine wp_name (fun W8 hW8=> ?_)
   have HR8:=Lib.hid (show W8.rowIs (W1.heap.size+1) 109 4 (ndF (.slice (some ⟨g,o,none⟩) H kc) (.slice none 0 0) (.slice (some ⟨gk,ok,none⟩) (H+1) cc) (⟨false,n.keys.take H,[],n.kids.take (H+1)⟩:ND)) by
    rw[←hW8]
    refine World.rowIs.congr ((((show w6.drew.rowIs _ _ _ _ from HR6.out).set 3 _).setOther (by simp) _).setOther (by simp) _) (fun j hj=> ?_)
    rcases j with _|_|_|_|j<;>first|rfl|(exfalso;omega))
   have HS8:=Lib.hid (show W8.rowIs W1.heap.size 109 4 (ndF (.slice (some ⟨g,o+(H+1),none⟩) (n.keys.length-(H+1)) (kc-(H+1))) (.slice none 0 0) (.slice (some ⟨gk,ok+(H+1),none⟩) (n.kids.length-(H+1)) (cc-(H+1))) (⟨false,n.keys.drop (H+1),[],n.kids.drop (H+1)⟩:ND)) by
    rw[←hW8]
    refine World.rowIs.congr ((((show w6.drew.rowIs _ _ _ _ from HS6.out).setOther (by simp) _).set 1 _).set 3 _) (fun j hj=> ?_)
    rcases j with _|_|_|_|j<;>first|rfl|(exfalso;omega))
   have HT8:=Lib.hid (show Touch [W1.heap.size,W1.heap.size+1] w6 W8 by
    rw[←hW8]
    exact(((Touch.refl _ _).drew.setCell (.inl (by simp)) _).setCell (.inl (by simp)) _).setCell (.inl (by simp)) _)
   have HB8:=Lib.hid (HB6.out.trans (HT8.out.below HB6.out.size (fun x hx=>by simp at hx;have:=HNE.out;omega)))
   have HP2:=Lib.hid (rowIs_touch HQ2.out HT8.out (by have:=HNE.out;simp;omega))
   have HP4:=Lib.hid (rowIs_touch HQ4.out HT8.out (by have:=HNE.out;simp;omega))
   clear hW8 a0 a1 a2 a3 b0 b1 b2 b3 c0 c1 c2 c3 fa fb HQ0 HQ2 HQ4 HR6 HS6 HN6
   obtain⟨a0,a1,a2,a3⟩:=ndF_cells HR8.out
   obtain⟨b0,b1,b2,b3⟩:=ndF_cells HS8.out
   have a0:W8.cell? ⟨(W1.heap.size+1),0,none⟩=some (.bool false):=a0
   have b0:W8.cell? ⟨W1.heap.size,0,none⟩=some (.bool false):=b0
   have hS8:(fun w':World=>(w'.cell? ⟨(W1.heap.size+1),0,none⟩=some (.bool false)∧w'.cell? ⟨(W1.heap.size+1),1,none⟩=some (.slice (some ⟨g,o,none⟩) H kc)∧w'.cell? ⟨(W1.heap.size+1),2,none⟩=some (.slice none 0 0)∧w'.cell? ⟨(W1.heap.size+1),3,none⟩=some (.slice (some ⟨gk,ok,none⟩) (H+1) cc))∧w'.cell? ⟨W1.heap.size,0,none⟩=some (.bool false)∧w'.cell? ⟨W1.heap.size,1,none⟩=some (.slice (some ⟨g,o+(H+1),none⟩) (n.keys.length-(H+1)) (kc-(H+1)))∧w'.cell? ⟨W1.heap.size,2,none⟩=some (.slice none 0 0)∧w'.cell? ⟨W1.heap.size,3,none⟩=some (.slice (some ⟨gk,ok+(H+1),none⟩) (n.kids.length-(H+1)) (cc-(H+1)))) W8:=⟨⟨a0,a1,a2,a3⟩,b0,b1,b2,b3⟩
   have HSB8:=Lib.hid (fun(w':World) (t:Touch [w.heap.size+1,w.heap.size+1+1] W8 w')=>(show(fun w':World=>(w'.cell? ⟨(W1.heap.size+1),0,none⟩=some (.bool false)∧w'.cell? ⟨(W1.heap.size+1),1,none⟩=some (.slice (some ⟨g,o,none⟩) H kc)∧w'.cell? ⟨(W1.heap.size+1),2,none⟩=some (.slice none 0 0)∧w'.cell? ⟨(W1.heap.size+1),3,none⟩=some (.slice (some ⟨gk,ok,none⟩) (H+1) cc))∧w'.cell? ⟨W1.heap.size,0,none⟩=some (.bool false)∧w'.cell? ⟨W1.heap.size,1,none⟩=some (.slice (some ⟨g,o+(H+1),none⟩) (n.keys.length-(H+1)) (kc-(H+1)))∧w'.cell? ⟨W1.heap.size,2,none⟩=some (.slice none 0 0)∧w'.cell? ⟨W1.heap.size,3,none⟩=some (.slice (some ⟨gk,ok+(H+1),none⟩) (n.kids.length-(H+1)) (cc-(H+1)))) w' from by
    have k: ∀i,w'.cell? ⟨(W1.heap.size+1),i,none⟩=W8.cell? ⟨(W1.heap.size+1),i,none⟩∧w'.cell? ⟨W1.heap.size,i,none⟩=W8.cell? ⟨W1.heap.size,i,none⟩:=fun i=>⟨t.cell (p:=⟨_,_,none⟩) (World.rowIs.lt HR8.out) (by have:=HNE.out;simp;omega),t.cell (p:=⟨_,_,none⟩) (World.rowIs.lt HS8.out) (by have:=HNE.out;simp;omega)⟩
    exact⟨⟨(k 0).1.trans a0,(k 1).1.trans a1,(k 2).1.trans a2,(k 3).1.trans a3⟩,(k 0).2.trans b0,(k 1).2.trans b1,(k 2).2.trans b2,(k 3).2.trans b3⟩))
   clear hS8
   refine wp_region_noPanic ?_
   refine wp_region_par 5 (by kernel_rfl) (by kernel_rfl) (by simp) (by kernel_rfl) (by kernel_rfl) (fun w':World=>(w'.cell? ⟨(W1.heap.size+1),0,none⟩=some (.bool false)∧w'.cell? ⟨(W1.heap.size+1),1,none⟩=some (.slice (some ⟨g,o,none⟩) H kc)∧w'.cell? ⟨(W1.heap.size+1),2,none⟩=some (.slice none 0 0)∧w'.cell? ⟨(W1.heap.size+1),3,none⟩=some (.slice (some ⟨gk,ok,none⟩) (H+1) cc))∧w'.cell? ⟨W1.heap.size,0,none⟩=some (.bool false)∧w'.cell? ⟨W1.heap.size,1,none⟩=some (.slice (some ⟨g,o+(H+1),none⟩) (n.keys.length-(H+1)) (kc-(H+1)))∧w'.cell? ⟨W1.heap.size,2,none⟩=some (.slice none 0 0)∧w'.cell? ⟨W1.heap.size,3,none⟩=some (.slice (some ⟨gk,ok+(H+1),none⟩) (n.kids.length-(H+1)) (cc-(H+1)))) (HSB8.out _ (Touch.refl _ _).drew) ?_
   refine par_read (v:= ?_) 0 (by simp only[zga,zgb,zgc];rfl) (by kernel_rfl) (by rfl) ?_ (fun _ _ _ h=>h) ?_
   rotate_left
   ·(intro w9 hSw;(try dsimp only at hSw);go_simp;try with_reducible rfl)
   simp only[Act.put,zpa,zpb,zpc]
   refine par_read (v:= ?_) 1 (by simp only[zga,zgb,zgc];rfl) (by kernel_rfl) (by rfl) ?_ (fun _ _ _ h=>h) ?_
   rotate_left
   ·(intro w9 hSw;(try dsimp only at hSw);go_simp;try with_reducible rfl)
   simp only[Act.put,zpa,zpb,zpc]
   refine par_read (v:= ?_) 2 (by simp only[zga,zgb,zgc];rfl) (by kernel_rfl) (by rfl) ?_ (fun _ _ _ h=>h) ?_
   rotate_left
   ·(intro w9 hSw;(try dsimp only at hSw);go_simp;try with_reducible rfl)
   simp only[Act.put,zpa,zpb,zpc]
   refine par_one 3 (by simp only[zga,zgb,zgc];rfl) (by kernel_rfl) (by rfl) ?_
   refine owp_store_node (.tmp 2) (.tmp 63) rfl (w.heap.size+1) false (.slice (some ⟨g,o,none⟩) H kc) (.slice none 0 0) (.slice (some ⟨gk,ok,none⟩) (H+1) cc) (⟨false,n.keys.take H,[],n.kids.take (H+1)⟩:ND) rfl rfl rfl (show W8.drew.rowIs _ _ _ _ from HP2.out) (by simp[Value.oneCell']) ?_
   intro w10 hr10 t10
   have HRA:=Lib.hid hr10
   have HTA:=Lib.hid (show Touch [w.heap.size+1] W8 w10 from(Touch.refl [w.heap.size+1] W8).drew.trans t10 (fun b hb=> .inl hb))
   clear hr10 t10
   refine⟨HSB8.out _ (HTA.out.mono (fun b hb=> .inl (by simp at hb;simp[hb]))), ?_⟩
   simp only[Act.put,zpa,zpb,zpc]
   refine par_one 4 (by simp only[zga,zgb,zgc];rfl) (by kernel_rfl) (by rfl) ?_
   refine owp_val (v:= ?_) (w1:= ?_) ?_ ?_
   rotate_left 2
   ·(go_simp;first|done|(constructor<;>rfl))
   refine⟨HSB8.out _ (HTA.out.mono (fun b hb=> .inl (by simp at hb;simp[hb]))), ?_⟩
   simp only[Act.put,zpa,zpb,zpc]
   refine par_tail _ (by simp only[List.drop_succ_cons,List.drop_zero];rfl) (by kernel_rfl) ?_
   go_wp2_with (refine wpList_store_node rfl (.tmp 4) (.tmp 65) rfl (w.heap.size+1+1) false (.slice (some ⟨g,o+(H+1),none⟩) (n.keys.length-(H+1)) (kc-(H+1))) (.slice none 0 0) (.slice (some ⟨gk,ok+(H+1),none⟩) (n.kids.length-(H+1)) (cc-(H+1))) (⟨false,n.keys.drop (H+1),[],n.kids.drop (H+1)⟩:ND) rfl rfl rfl (rowIs_touch HP4.out HTA.out (by simp)) (by simp[Value.oneCell']) ?_;intro w11 hr11 t11;have HRB:=Lib.hid hr11;have HTB:=Lib.hid t11;clear hr11 t11)
   refine NoPanic.normal ?_
   go_wp2_with fail
   refine bodyPost_ret_by (res_node3 Tryz.results185 rfl rfl (rowIs_touch HRA.out HTB.out (by simp)) HRB.out) rfl ?_
   have hb11:=HB8.out.trans (((Touch.refl [w.heap.size+1,w.heap.size+1+1] W8).trans HTA.out (fun b hb=> .inl (by simp at hb ⊢;exact .inl hb))).trans HTB.out (fun b hb=> .inl (by simp at hb ⊢;exact .inr hb)) |>.below HB8.out.size (fun x hx=>by simp at hx;omega))
   refine⟨_,_,_,_,_,_,by rw[HA.out,HBB.out,HKK.out];rfl, ?_, ?_, ?_, ?_,hb11⟩
   ·rw[HA.out]
    exact HIA.out _ hb11
   ·rw[HBB.out]
    exact HIB.out _ hb11
   ·intro g9 hg9
    simp[ndBk,blkOf] at hg9 ⊢
    exact hg9.imp id (fun h=>by simp[h])
   ·intro g9 hg9
    simp[ndBk,blkOf] at hg9 ⊢
    exact hg9.imp id (fun h=>by simp[h])
 ·obtain⟨e1,e2, -⟩:=hs.lf hl
  obtain⟨ca,cc,rfl⟩:=h.cs.form
  obtain⟨gk,ok,vc,rfl,z1,z2,hgk, -⟩:=h.vs.at_ (by omega)
  have u1:H≤vc:=by omega
  have u2: ¬(vc=H):=by omega
  have u3:H≤n.vals.length:=by omega
  have u4:(H:Int)≤(n.vals.length:Int):=by omega
  have u5:(H:Int)≤(n.keys.length:Int):=by omega
  have HA:=Lib.hid (show halfA n=⟨true,n.keys.take H,n.vals.take H,[]⟩ by unfold halfA;rw[hl, ←hH];rfl)
  have HBB:=Lib.hid (show halfB n=⟨true,n.keys.drop H,n.vals.drop H,[]⟩ by unfold halfB;rw[hl, ←hH];rfl)
  have HIA:=Lib.hid (fun(w':World) (hb:Below w.heap.size w w')=>(⟨(h.ks.below hb).take (m:=H) (by omega) (by omega),(h.vs.below hb).take (m:=H) (by omega) (by omega),IsI.nil _ _⟩:NdI w' (.slice (some ⟨g,o,none⟩) H kc) (.slice (some ⟨gk,ok,none⟩) H vc) (.slice none 0 0) ⟨true,n.keys.take H,n.vals.take H,[]⟩))
  have HIB:=Lib.hid (fun(w':World) (hb:Below w.heap.size w w')=>(⟨(h.ks.below hb).drop (m:=H) (by omega) (by omega),(h.vs.below hb).drop (m:=H) (by omega) (by omega),IsI.nil _ _⟩:NdI w' (.slice (some ⟨g,o+H,none⟩) (n.keys.length - H) (kc - H)) (.slice (some ⟨gk,ok+H,none⟩) (n.vals.length - H) (vc - H)) (.slice none 0 0) ⟨true,n.keys.drop H,n.vals.drop H,[]⟩))
  clear hH
  have HI:=Lib.hid h
  have HE:=Lib.hid e2
  have HL:=Lib.hid hl
  clear e1 e2 h
  unfold ndV
  rw[hl]
  go_enter Tryz.func185,Tryz.ntmps185
  go_wp2_with fail
  refine wp_name (fun W1 hW1=> ?_)
  have HB1:=Lib.hid (show Below w.heap.size w W1 by rw[←hW1];exact below_alloc (below_alloc (below_alloc (Below.refl _ _))))
  have HR0:=Lib.hid (show W1.rowIs w.heap.size 109 4 (ndF (.slice (some ⟨g,o,none⟩) n.keys.length kc) (.slice (some ⟨gk,ok,none⟩) n.vals.length vc) (.slice ca n.kids.length cc) n) by
   rw[←hW1]
   have:=ndF_new w (.slice (some ⟨g,o,none⟩) n.keys.length kc) (.slice (some ⟨gk,ok,none⟩) n.vals.length vc) (.slice ca n.kids.length cc) n
   rw[hl] at this
   exact rowIs_touch this (F:=[]) (((Touch.refl _ _).alloc _).alloc _) (by simp))
  have HR2:=Lib.hid (show W1.rowIs (w.heap.size+1) 109 4 (ndF (.slice none 0 0) (.slice none 0 0) (.slice none 0 0) nd0) by
   rw[←hW1]
   exact rowIs_touch (node0_row w _) (F:=[]) ((Touch.refl _ _).alloc _) (by simp))
  have HR4:=Lib.hid (show W1.rowIs (w.heap.size+1+1) 109 4 (ndF (.slice none 0 0) (.slice none 0 0) (.slice none 0 0) nd0) by
   rw[←hW1]
   have h:=node0_row (w.alloc (.cells #[.bool true, .slice (some ⟨g,o,none⟩) n.keys.length kc,(.slice (some ⟨gk,ok,none⟩) n.vals.length vc),(.slice ca n.kids.length cc)] 109)) (.cells #[.bool false, .slice none 0 0, .slice none 0 0, .slice none 0 0] 109)
   rw[World.size_alloc_eq] at h
   exact h)
  obtain⟨c0,c1,c2,c3⟩:=ndF_cells HR0.out
  rw[hl] at c0
  have HG:=Lib.hid ((HB1.out.cell (p:=⟨g,o+H,none⟩) hg).trans hc)
  have HLT:=Lib.hid (show w.heap.size<W1.heap.size∧g<W1.heap.size from⟨World.rowIs.lt HR0.out,Nat.lt_of_lt_of_le hg HB1.out.size⟩)
  clear hW1
  have hS0:(fun w':World=>w'.cell? ⟨w.heap.size,0,none⟩=some (.bool true)∧w'.cell? ⟨w.heap.size,1,none⟩=some (.slice (some ⟨g,o,none⟩) n.keys.length kc)∧w'.cell? ⟨g,o+H,none⟩=some (.int .u64 KEY)) W1:=⟨c0,c1,HG.out⟩
  have HS0:=Lib.hid hS0
  have HSB:=Lib.hid (fun(w':World) (t:Touch [W1.heap.size,W1.heap.size+1] W1 w')=>(show(fun w':World=>w'.cell? ⟨w.heap.size,0,none⟩=some (.bool true)∧w'.cell? ⟨w.heap.size,1,none⟩=some (.slice (some ⟨g,o,none⟩) n.keys.length kc)∧w'.cell? ⟨g,o+H,none⟩=some (.int .u64 KEY)) w' from
   ⟨(t.cell (p:=⟨_,_,none⟩) HLT.out.1 (by have:=HLT.out;simp;omega)).trans hS0.1,(t.cell (p:=⟨_,_,none⟩) HLT.out.1 (by have:=HLT.out;simp;omega)).trans hS0.2.1,(t.cell (p:=⟨_,_,none⟩) HLT.out.2 (by have:=HLT.out;simp;omega)).trans hS0.2.2⟩))
  clear hS0
  refine wp_region_noPanic ?_
  refine wp_region_par 19 (by kernel_rfl) (by kernel_rfl) (by simp) (by kernel_rfl) (by kernel_rfl) (fun w':World=>w'.cell? ⟨w.heap.size,0,none⟩=some (.bool true)∧w'.cell? ⟨w.heap.size,1,none⟩=some (.slice (some ⟨g,o,none⟩) n.keys.length kc)∧w'.cell? ⟨g,o+H,none⟩=some (.int .u64 KEY)) (HSB.out _ (Touch.refl _ _).drew) ?_
  refine par_read (v:= ?_) 0 (by simp only[zga,zgb,zgc];rfl) (by kernel_rfl) (by rfl) ?_ (fun _ _ _ h=>h) ?_
  rotate_left
  ·(intro w9 hSw;(try dsimp only at hSw);go_simp;try with_reducible rfl)
  simp only[Act.put,zpa,zpb,zpc]
  refine par_read (v:= ?_) 1 (by simp only[zga,zgb,zgc];rfl) (by kernel_rfl) (by rfl) ?_ (fun _ _ _ h=>h) ?_
  rotate_left
  ·(intro w9 hSw;(try dsimp only at hSw);go_simp;try with_reducible rfl)
  simp only[Act.put,zpa,zpb,zpc]
  refine par_read (v:= ?_) 2 (by simp only[zga,zgb,zgc];rfl) (by kernel_rfl) (by rfl) ?_ (fun _ _ _ h=>h) ?_
  rotate_left
  ·(intro w9 hSw;(try dsimp only at hSw);go_simp;try with_reducible rfl)
  simp only[Act.put,zpa,zpb,zpc]
  refine par_read (v:= ?_) 3 (by simp only[zga,zgb,zgc];rfl) (by kernel_rfl) (by rfl) ?_ (fun _ _ _ h=>h) ?_
  rotate_left
  ·(intro w9 hSw;(try dsimp only at hSw);go_simp;try with_reducible rfl)
  simp only[Act.put,zpa,zpb,zpc]
  refine par_read (v:= ?_) 4 (by simp only[zga,zgb,zgc];rfl) (by kernel_rfl) (by rfl) ?_ (fun _ _ _ h=>h) ?_
  rotate_left
  ·(intro w9 hSw;(try dsimp only at hSw);go_simp;try with_reducible rfl)
  simp only[Act.put,zpa,zpb,zpc]
  refine par_read (v:= ?_) 5 (by simp only[zga,zgb,zgc];rfl) (by kernel_rfl) (by rfl) ?_ (fun _ _ _ h=>h) ?_
  rotate_left
  ·(intro w9 hSw;(try dsimp only at hSw);go_simp;try with_reducible rfl)
  simp only[Act.put,zpa,zpb,zpc]
  refine par_read (v:= ?_) 6 (by simp only[zga,zgb,zgc];rfl) (by kernel_rfl) (by rfl) ?_ (fun _ _ _ h=>h) ?_
  rotate_left
  ·(intro w9 hSw;(try dsimp only at hSw);go_simp;try with_reducible rfl)
  simp only[Act.put,zpa,zpb,zpc]
  refine par_read (v:= ?_) 7 (by simp only[zga,zgb,zgc];rfl) (by kernel_rfl) (by rfl) ?_ (fun _ _ _ h=>h) ?_
  rotate_left
  ·(intro w9 hSw;(try dsimp only at hSw);go_simp;try with_reducible rfl)
  simp only[Act.put,zpa,zpb,zpc]
  refine par_read (v:= ?_) 8 (by simp only[zga,zgb,zgc];rfl) (by kernel_rfl) (by rfl) ?_ (fun _ _ _ h=>h) ?_
  rotate_left
  ·(intro w9 hSw;(try dsimp only at hSw);go_simp;try with_reducible rfl)
  simp only[Act.put,zpa,zpb,zpc]
  refine par_read (v:= ?_) 9 (by simp only[zga,zgb,zgc];rfl) (by kernel_rfl) (by rfl) ?_ (fun _ _ _ h=>h) ?_
  rotate_left
  ·(intro w9 hSw;(try dsimp only at hSw);go_simp;try with_reducible rfl)
  simp only[Act.put,zpa,zpb,zpc]
  refine par_read (v:= ?_) 10 (by simp only[zga,zgb,zgc];rfl) (by kernel_rfl) (by rfl) ?_ (fun _ _ _ h=>h) ?_
  rotate_left
  ·(intro w9 hSw;(try dsimp only at hSw);go_simp;try with_reducible rfl)
  simp only[Act.put,zpa,zpb,zpc]
  refine par_read (v:= ?_) 11 (by simp only[zga,zgb,zgc];rfl) (by kernel_rfl) (by rfl) ?_ (fun _ _ _ h=>h) ?_
  rotate_left
  ·(intro w9 hSw;(try dsimp only at hSw);go_simp;try with_reducible rfl)
  simp only[Act.put,zpa,zpb,zpc]
  refine par_read (v:= ?_) 12 (by simp only[zga,zgb,zgc];rfl) (by kernel_rfl) (by rfl) ?_ (fun _ _ _ h=>h) ?_
  rotate_left
  ·(intro w9 hSw;(try dsimp only at hSw);go_simp;try with_reducible rfl)
  simp only[Act.put,zpa,zpb,zpc]
  refine par_read (v:= ?_) 13 (by simp only[zga,zgb,zgc];rfl) (by kernel_rfl) (by rfl) ?_ (fun _ _ _ h=>h) ?_
  rotate_left
  ·(intro w9 hSw;(try dsimp only at hSw);go_simp;try with_reducible rfl)
  simp only[Act.put,zpa,zpb,zpc]
  refine par_read (v:= ?_) 14 (by simp only[zga,zgb,zgc];rfl) (by kernel_rfl) (by rfl) ?_ (fun _ _ _ h=>h) ?_
  rotate_left
  ·(intro w9 hSw;(try dsimp only at hSw);go_simp;try with_reducible rfl)
  simp only[Act.put,zpa,zpb,zpc]
  refine par_two 15 16 (by simp only[zga,zgb,zgc];rfl) (by simp only[zga,zgb,zgc];rfl) (by kernel_rfl) (by rfl) (by rfl) ?_ ?_
  ·refine owp_val (v:= ?_) (w1:= ?_) ?_ ?_
   rotate_left 2
   ·(go_simp;constructor<;>rfl)
   refine⟨HSB.out _ ((Touch.refl _ _).drew.alloc _), ?_⟩
   simp only[Act.put,zpa,zpb,zpc]
   refine par_one 16 (by simp only[zga,zgb,zgc];rfl) (by kernel_rfl) (by rfl) ?_
   refine owp_val (v:= ?_) (w1:= ?_) ?_ ?_
   rotate_left 2
   ·(go_simp;constructor<;>rfl)
   refine⟨HSB.out _ (((Touch.refl _ _).drew.alloc _).alloc _), ?_⟩
   simp only[Act.put,zpa,zpb,zpc]
   refine par_one 17 (by simp only[zga,zgb,zgc];rfl) (by kernel_rfl) (by rfl) ?_
   refine owp_store_node (.tmp 6) (.tmp 19) rfl W1.heap.size true (.slice (some ⟨g,o,none⟩) H kc) (.slice none 0 0) (.slice none 0 0) ⟨true,n.keys.take H,[],[]⟩ rfl rfl rfl ((rows_two W1).1) (by simp[Value.oneCell']) ?_
   intro w5 hr5 t5
   have HR7:=Lib.hid (rowIs_touch ((rows_two W1).2) t5 (by simp))
   have HT5:=Lib.hid ((((Touch.refl [W1.heap.size,W1.heap.size+1] W1).drew.alloc _).alloc _).trans t5 (fun b hb=> .inl (by simp at hb ⊢;omega)))
   have HR5:=Lib.hid hr5
   refine⟨HSB.out _ HT5.out, ?_⟩
   clear hr5 t5
   simp only[Act.put,zpa,zpb,zpc]
   refine par_one 18 (by simp only[zga,zgb,zgc];rfl) (by kernel_rfl) (by rfl) ?_
   refine owp_store_node (.tmp 7) (.tmp 22) rfl (W1.heap.size+1) true (.slice none 0 0) (.slice none 0 0) (.slice none 0 0) ⟨true,[],[],[]⟩ rfl rfl rfl HR7.out (by simp[Value.oneCell']) ?_
   intro w6 hr6 t6
   have HR6:=Lib.hid (rowIs_touch HR5.out t6 (by simp))
   have HT6:=Lib.hid (HT5.out.trans t6 (fun b hb=> .inl (by simp at hb ⊢;omega)))
   have HS6:=Lib.hid hr6
   refine⟨HSB.out _ HT6.out, ?_⟩
   clear hr6 t6 HT5 HR5 HR7
   simp only[Act.put,zpa,zpb,zpc]
   refine par_tail _ (by simp only[List.drop_succ_cons,List.drop_zero];rfl) (by kernel_rfl) ?_
   go_wp2_with fail
   refine NoPanic.normal ?_
   clear c0 c1 c2 c3
   have HB6:=Lib.hid (HB1.out.trans (HT6.out.below (Nat.le_of_lt HLT.out.1) (fun x hx=>by simp at hx;have:=HLT.out.1;omega)))
   have HQ0:=Lib.hid (rowIs_touch HR0.out HT6.out (by have:=HLT.out.1;simp;omega))
   have HQ2:=Lib.hid (rowIs_touch HR2.out HT6.out (by have:=World.rowIs.lt HR2.out;simp;omega))
   have HQ4:=Lib.hid (rowIs_touch HR4.out HT6.out (by have:=World.rowIs.lt HR4.out;simp;omega))
   have HN6:=Lib.hid (HI.out.below HB6.out)
   have HNE:=Lib.hid (show w.heap.size+1+1<W1.heap.size from World.rowIs.lt HR4.out)
   clear HR0 HR2 HR4 HT6 HSB HS0
   obtain⟨c0,c1,c2,c3⟩:=ndF_cells HQ0.out
   rw[hl] at c0
   obtain⟨a0,a1,a2,a3⟩:=ndF_cells HR6.out
   obtain⟨b0,b1,b2,b3⟩:=ndF_cells HS6.out
   have fa:=fun i=>World.rowIs.frozen HR6.out i
   have fb:=fun i=>World.rowIs.frozen HS6.out i
   go_wp2_with fail
   have hS6:(fun w':World=>w'.cell? ⟨w.heap.size,1,none⟩=some (.slice (some ⟨g,o,none⟩) n.keys.length kc)∧w'.cell? ⟨w.heap.size,2,none⟩=some (.slice (some ⟨gk,ok,none⟩) n.vals.length vc)) w6:=⟨c1,c2⟩
   have hlt6:=World.rowIs.lt HQ0.out
   have HSB6:=Lib.hid (fun(w':World) (t:Touch [W1.heap.size,W1.heap.size+1] w6 w')=>(show(fun w':World=>w'.cell? ⟨w.heap.size,1,none⟩=some (.slice (some ⟨g,o,none⟩) n.keys.length kc)∧w'.cell? ⟨w.heap.size,2,none⟩=some (.slice (some ⟨gk,ok,none⟩) n.vals.length vc)) w' from
    ⟨(t.cell (p:=⟨_,_,none⟩) hlt6 (by have:=HNE.out;simp;omega)).trans hS6.1,(t.cell (p:=⟨_,_,none⟩) hlt6 (by have:=HNE.out;simp;omega)).trans hS6.2⟩))
   clear hS6 hlt6
   refine wp_region_noPanic ?_
   refine wp_region_par 17 (by kernel_rfl) (by kernel_rfl) (by simp) (by kernel_rfl) (by kernel_rfl) (fun w':World=>w'.cell? ⟨w.heap.size,1,none⟩=some (.slice (some ⟨g,o,none⟩) n.keys.length kc)∧w'.cell? ⟨w.heap.size,2,none⟩=some (.slice (some ⟨gk,ok,none⟩) n.vals.length vc)) (HSB6.out _ (Touch.refl _ _).drew) ?_
   refine par_read (v:= ?_) 0 (by simp only[zga,zgb,zgc];rfl) (by kernel_rfl) (by rfl) ?_ (fun _ _ _ h=>h) ?_
   rotate_left
   ·(intro w9 hSw;(try dsimp only at hSw);go_simp;try with_reducible rfl)
   simp only[Act.put,zpa,zpb,zpc]
   refine par_read (v:= ?_) 1 (by simp only[zga,zgb,zgc];rfl) (by kernel_rfl) (by rfl) ?_ (fun _ _ _ h=>h) ?_
   rotate_left
   ·(intro w9 hSw;(try dsimp only at hSw);go_simp;try with_reducible rfl)
   simp only[Act.put,zpa,zpb,zpc]
   refine par_read (v:= ?_) 2 (by simp only[zga,zgb,zgc];rfl) (by kernel_rfl) (by rfl) ?_ (fun _ _ _ h=>h) ?_
   rotate_left
   ·(intro w9 hSw;(try dsimp only at hSw);go_simp;try with_reducible rfl)
   simp only[Act.put,zpa,zpb,zpc]
   refine par_read (v:= ?_) 3 (by simp only[zga,zgb,zgc];rfl) (by kernel_rfl) (by rfl) ?_ (fun _ _ _ h=>h) ?_
   rotate_left
   ·(intro w9 hSw;(try dsimp only at hSw);go_simp;try with_reducible rfl)
   simp only[Act.put,zpa,zpb,zpc]
   refine par_read (v:= ?_) 4 (by simp only[zga,zgb,zgc];rfl) (by kernel_rfl) (by rfl) ?_ (fun _ _ _ h=>h) ?_
   rotate_left
   ·(intro w9 hSw;(try dsimp only at hSw);go_simp;try with_reducible rfl)
   simp only[Act.put,zpa,zpb,zpc]
   refine par_read (v:= ?_) 5 (by simp only[zga,zgb,zgc];rfl) (by kernel_rfl) (by rfl) ?_ (fun _ _ _ h=>h) ?_
   rotate_left
   ·(intro w9 hSw;(try dsimp only at hSw);go_simp;try with_reducible rfl)
   simp only[Act.put,zpa,zpb,zpc]
   refine par_read (v:= ?_) 6 (by simp only[zga,zgb,zgc];rfl) (by kernel_rfl) (by rfl) ?_ (fun _ _ _ h=>h) ?_
   rotate_left
   ·(intro w9 hSw;(try dsimp only at hSw);go_simp;try with_reducible rfl)
   simp only[Act.put,zpa,zpb,zpc]
   refine par_read (v:= ?_) 7 (by simp only[zga,zgb,zgc];rfl) (by kernel_rfl) (by rfl) ?_ (fun _ _ _ h=>h) ?_
   rotate_left
   ·(intro w9 hSw;(try dsimp only at hSw);go_simp;try with_reducible rfl)
   simp only[Act.put,zpa,zpb,zpc]
   refine par_read (v:= ?_) 8 (by simp only[zga,zgb,zgc];rfl) (by kernel_rfl) (by rfl) ?_ (fun _ _ _ h=>h) ?_
   rotate_left
   ·(intro w9 hSw;(try dsimp only at hSw);go_simp;try with_reducible rfl)
   simp only[Act.put,zpa,zpb,zpc]
   refine par_read (v:= ?_) 9 (by simp only[zga,zgb,zgc];rfl) (by kernel_rfl) (by rfl) ?_ (fun _ _ _ h=>h) ?_
   rotate_left
   ·(intro w9 hSw;(try dsimp only at hSw);go_simp;try with_reducible rfl)
   simp only[Act.put,zpa,zpb,zpc]
   refine par_read (v:= ?_) 10 (by simp only[zga,zgb,zgc];rfl) (by kernel_rfl) (by rfl) ?_ (fun _ _ _ h=>h) ?_
   rotate_left
   ·(intro w9 hSw;(try dsimp only at hSw);go_simp;try with_reducible rfl)
   simp only[Act.put,zpa,zpb,zpc]
   refine par_read (v:= ?_) 11 (by simp only[zga,zgb,zgc];rfl) (by kernel_rfl) (by rfl) ?_ (fun _ _ _ h=>h) ?_
   rotate_left
   ·(intro w9 hSw;(try dsimp only at hSw);go_simp;try with_reducible rfl)
   simp only[Act.put,zpa,zpb,zpc]
   refine par_read (v:= ?_) 12 (by simp only[zga,zgb,zgc];rfl) (by kernel_rfl) (by rfl) ?_ (fun _ _ _ h=>h) ?_
   rotate_left
   ·(intro w9 hSw;(try dsimp only at hSw);go_simp;try with_reducible rfl)
   simp only[Act.put,zpa,zpb,zpc]
   refine par_one 13 (by simp only[zga,zgb,zgc];rfl) (by kernel_rfl) (by rfl) ?_
   refine owp_skip (w1:= ?_) ?_ ?_
   rotate_left
   ·(go_simp;first|rfl|(constructor<;>rfl))
   refine⟨HSB6.out _ ((Touch.refl _ _).drew.setCell (.inl (by simp)) _), ?_⟩
   simp only[Act.put,zpa,zpb,zpc]
   refine par_read (v:= ?_) 14 (by simp only[zga,zgb,zgc];rfl) (by kernel_rfl) (by rfl) ?_ (fun _ _ _ h=>h) ?_
   rotate_left
   ·(intro w9 hSw;(try dsimp only at hSw);go_simp;try with_reducible rfl)
   simp only[Act.put,zpa,zpb,zpc]
   refine par_one 15 (by simp only[zga,zgb,zgc];rfl) (by kernel_rfl) (by rfl) ?_
   refine owp_skip (w1:= ?_) ?_ ?_
   rotate_left
   ·(go_simp;first|rfl|(constructor<;>rfl))
   refine⟨HSB6.out _ (((Touch.refl _ _).drew.setCell (.inl (by simp)) _).setCell (.inl (by simp)) _), ?_⟩
   simp only[Act.put,zpa,zpb,zpc]
   refine par_read (v:= ?_) 16 (by simp only[zga,zgb,zgc];rfl) (by kernel_rfl) (by rfl) ?_ (fun _ _ _ h=>h) ?_
   rotate_left
   ·(intro w9 hSw;(try dsimp only at hSw);go_simp;try with_reducible rfl)
   simp only[Act.put,zpa,zpb,zpc]
   refine par_tail _ (by simp only[List.drop_succ_cons,List.drop_zero];rfl) (by kernel_rfl) ?_
   go_wp2_with fail
   refine NoPanic.normal ?_
   clear HSB6
   go_wp2_with fail
   refine wp_name (fun W8 hW8=> ?_)
   have HR8:=Lib.hid (show W8.rowIs W1.heap.size 109 4 (ndF (.slice (some ⟨g,o,none⟩) H kc) (.slice (some ⟨gk,ok,none⟩) H vc) (.slice none 0 0) (⟨true,n.keys.take H,n.vals.take H,[]⟩:ND)) by
    rw[←hW8]
    refine World.rowIs.congr ((((show w6.drew.rowIs _ _ _ _ from HR6.out).set 2 _).setOther (by simp) _).setOther (by simp) _) (fun j hj=> ?_)
    rcases j with _|_|_|_|j<;>first|rfl|(exfalso;omega))
   have HS8:=Lib.hid (show W8.rowIs (W1.heap.size+1) 109 4 (ndF (.slice (some ⟨g,o+H,none⟩) (n.keys.length-H) (kc-H)) (.slice (some ⟨gk,ok+H,none⟩) (n.vals.length-H) (vc-H)) (.slice none 0 0) (⟨true,n.keys.drop H,n.vals.drop H,[]⟩:ND)) by
    rw[←hW8]
    refine World.rowIs.congr ((((show w6.drew.rowIs _ _ _ _ from HS6.out).setOther (by simp) _).set 1 _).set 2 _) (fun j hj=> ?_)
    rcases j with _|_|_|_|j<;>first|rfl|(exfalso;omega))
   have HT8:=Lib.hid (show Touch [W1.heap.size,W1.heap.size+1] w6 W8 by
    rw[←hW8]
    exact(((Touch.refl _ _).drew.setCell (.inl (by simp)) _).setCell (.inl (by simp)) _).setCell (.inl (by simp)) _)
   have HB8:=Lib.hid (HB6.out.trans (HT8.out.below HB6.out.size (fun x hx=>by simp at hx;have:=HNE.out;omega)))
   have HP2:=Lib.hid (rowIs_touch HQ2.out HT8.out (by have:=HNE.out;simp;omega))
   have HP4:=Lib.hid (rowIs_touch HQ4.out HT8.out (by have:=HNE.out;simp;omega))
   clear hW8 a0 a1 a2 a3 b0 b1 b2 b3 c0 c1 c2 c3 fa fb HQ0 HQ2 HQ4 HR6 HS6 HN6
   obtain⟨a0,a1,a2,a3⟩:=ndF_cells HR8.out
   obtain⟨b0,b1,b2,b3⟩:=ndF_cells HS8.out
   have a0:W8.cell? ⟨W1.heap.size,0,none⟩=some (.bool true):=a0
   have b0:W8.cell? ⟨(W1.heap.size+1),0,none⟩=some (.bool true):=b0
   have hS8:(fun w':World=>(w'.cell? ⟨W1.heap.size,0,none⟩=some (.bool true)∧w'.cell? ⟨W1.heap.size,1,none⟩=some (.slice (some ⟨g,o,none⟩) H kc)∧w'.cell? ⟨W1.heap.size,2,none⟩=some (.slice (some ⟨gk,ok,none⟩) H vc)∧w'.cell? ⟨W1.heap.size,3,none⟩=some (.slice none 0 0))∧w'.cell? ⟨(W1.heap.size+1),0,none⟩=some (.bool true)∧w'.cell? ⟨(W1.heap.size+1),1,none⟩=some (.slice (some ⟨g,o+H,none⟩) (n.keys.length-H) (kc-H))∧w'.cell? ⟨(W1.heap.size+1),2,none⟩=some (.slice (some ⟨gk,ok+H,none⟩) (n.vals.length-H) (vc-H))∧w'.cell? ⟨(W1.heap.size+1),3,none⟩=some (.slice none 0 0)) W8:=⟨⟨a0,a1,a2,a3⟩,b0,b1,b2,b3⟩
   have HSB8:=Lib.hid (fun(w':World) (t:Touch [w.heap.size+1,w.heap.size+1+1] W8 w')=>(show(fun w':World=>(w'.cell? ⟨W1.heap.size,0,none⟩=some (.bool true)∧w'.cell? ⟨W1.heap.size,1,none⟩=some (.slice (some ⟨g,o,none⟩) H kc)∧w'.cell? ⟨W1.heap.size,2,none⟩=some (.slice (some ⟨gk,ok,none⟩) H vc)∧w'.cell? ⟨W1.heap.size,3,none⟩=some (.slice none 0 0))∧w'.cell? ⟨(W1.heap.size+1),0,none⟩=some (.bool true)∧w'.cell? ⟨(W1.heap.size+1),1,none⟩=some (.slice (some ⟨g,o+H,none⟩) (n.keys.length-H) (kc-H))∧w'.cell? ⟨(W1.heap.size+1),2,none⟩=some (.slice (some ⟨gk,ok+H,none⟩) (n.vals.length-H) (vc-H))∧w'.cell? ⟨(W1.heap.size+1),3,none⟩=some (.slice none 0 0)) w' from by
    have k: ∀i,w'.cell? ⟨W1.heap.size,i,none⟩=W8.cell? ⟨W1.heap.size,i,none⟩∧w'.cell? ⟨(W1.heap.size+1),i,none⟩=W8.cell? ⟨(W1.heap.size+1),i,none⟩:=fun i=>⟨t.cell (p:=⟨_,_,none⟩) (World.rowIs.lt HR8.out) (by have:=HNE.out;simp;omega),t.cell (p:=⟨_,_,none⟩) (World.rowIs.lt HS8.out) (by have:=HNE.out;simp;omega)⟩
    exact⟨⟨(k 0).1.trans a0,(k 1).1.trans a1,(k 2).1.trans a2,(k 3).1.trans a3⟩,(k 0).2.trans b0,(k 1).2.trans b1,(k 2).2.trans b2,(k 3).2.trans b3⟩))
   clear hS8
   refine wp_region_noPanic ?_
   refine wp_region_par 5 (by kernel_rfl) (by kernel_rfl) (by simp) (by kernel_rfl) (by kernel_rfl) (fun w':World=>(w'.cell? ⟨W1.heap.size,0,none⟩=some (.bool true)∧w'.cell? ⟨W1.heap.size,1,none⟩=some (.slice (some ⟨g,o,none⟩) H kc)∧w'.cell? ⟨W1.heap.size,2,none⟩=some (.slice (some ⟨gk,ok,none⟩) H vc)∧w'.cell? ⟨W1.heap.size,3,none⟩=some (.slice none 0 0))∧w'.cell? ⟨(W1.heap.size+1),0,none⟩=some (.bool true)∧w'.cell? ⟨(W1.heap.size+1),1,none⟩=some (.slice (some ⟨g,o+H,none⟩) (n.keys.length-H) (kc-H))∧w'.cell? ⟨(W1.heap.size+1),2,none⟩=some (.slice (some ⟨gk,ok+H,none⟩) (n.vals.length-H) (vc-H))∧w'.cell? ⟨(W1.heap.size+1),3,none⟩=some (.slice none 0 0)) (HSB8.out _ (Touch.refl _ _).drew) ?_
   refine par_read (v:= ?_) 0 (by simp only[zga,zgb,zgc];rfl) (by kernel_rfl) (by rfl) ?_ (fun _ _ _ h=>h) ?_
   rotate_left
   ·(intro w9 hSw;(try dsimp only at hSw);go_simp;try with_reducible rfl)
   simp only[Act.put,zpa,zpb,zpc]
   refine par_read (v:= ?_) 1 (by simp only[zga,zgb,zgc];rfl) (by kernel_rfl) (by rfl) ?_ (fun _ _ _ h=>h) ?_
   rotate_left
   ·(intro w9 hSw;(try dsimp only at hSw);go_simp;try with_reducible rfl)
   simp only[Act.put,zpa,zpb,zpc]
   refine par_read (v:= ?_) 2 (by simp only[zga,zgb,zgc];rfl) (by kernel_rfl) (by rfl) ?_ (fun _ _ _ h=>h) ?_
   rotate_left
   ·(intro w9 hSw;(try dsimp only at hSw);go_simp;try with_reducible rfl)
   simp only[Act.put,zpa,zpb,zpc]
   refine par_one 3 (by simp only[zga,zgb,zgc];rfl) (by kernel_rfl) (by rfl) ?_
   refine owp_store_node (.tmp 2) (.tmp 63) rfl (w.heap.size+1) true (.slice (some ⟨g,o,none⟩) H kc) (.slice (some ⟨gk,ok,none⟩) H vc) (.slice none 0 0) (⟨true,n.keys.take H,n.vals.take H,[]⟩:ND) rfl rfl rfl (show W8.drew.rowIs _ _ _ _ from HP2.out) (by simp[Value.oneCell']) ?_
   intro w10 hr10 t10
   have HRA:=Lib.hid hr10
   have HTA:=Lib.hid (show Touch [w.heap.size+1] W8 w10 from(Touch.refl [w.heap.size+1] W8).drew.trans t10 (fun b hb=> .inl hb))
   clear hr10 t10
   refine⟨HSB8.out _ (HTA.out.mono (fun b hb=> .inl (by simp at hb;simp[hb]))), ?_⟩
   simp only[Act.put,zpa,zpb,zpc]
   refine par_one 4 (by simp only[zga,zgb,zgc];rfl) (by kernel_rfl) (by rfl) ?_
   refine owp_val (v:= ?_) (w1:= ?_) ?_ ?_
   rotate_left 2
   ·(go_simp;first|done|(constructor<;>rfl))
   refine⟨HSB8.out _ (HTA.out.mono (fun b hb=> .inl (by simp at hb;simp[hb]))), ?_⟩
   simp only[Act.put,zpa,zpb,zpc]
   refine par_tail _ (by simp only[List.drop_succ_cons,List.drop_zero];rfl) (by kernel_rfl) ?_
   go_wp2_with (refine wpList_store_node rfl (.tmp 4) (.tmp 65) rfl (w.heap.size+1+1) true (.slice (some ⟨g,o+H,none⟩) (n.keys.length-H) (kc-H)) (.slice (some ⟨gk,ok+H,none⟩) (n.vals.length-H) (vc-H)) (.slice none 0 0) (⟨true,n.keys.drop H,n.vals.drop H,[]⟩:ND) rfl rfl rfl (rowIs_touch HP4.out HTA.out (by simp)) (by simp[Value.oneCell']) ?_;intro w11 hr11 t11;have HRB:=Lib.hid hr11;have HTB:=Lib.hid t11;clear hr11 t11)
   refine NoPanic.normal ?_
   go_wp2_with fail
   refine bodyPost_ret_by (res_node3 Tryz.results185 rfl rfl (rowIs_touch HRA.out HTB.out (by simp)) HRB.out) rfl ?_
   have hb11:=HB8.out.trans (((Touch.refl [w.heap.size+1,w.heap.size+1+1] W8).trans HTA.out (fun b hb=> .inl (by simp at hb ⊢;exact .inl hb))).trans HTB.out (fun b hb=> .inl (by simp at hb ⊢;exact .inr hb)) |>.below HB8.out.size (fun x hx=>by simp at hx;omega))
   refine⟨_,_,_,_,_,_,by rw[HA.out,HBB.out,HKK.out];rfl, ?_, ?_, ?_, ?_,hb11⟩
   ·rw[HA.out]
    exact HIA.out _ hb11
   ·rw[HBB.out]
    exact HIB.out _ hb11
   ·intro g9 hg9
    simp[ndBk,blkOf] at hg9 ⊢
    exact hg9.imp id (fun h=>by simp[h])
   ·intro g9 hg9
    simp[ndBk,blkOf] at hg9 ⊢
    exact hg9.imp id (fun h=>by simp[h])
  ·refine owp_val (v:= ?_) (w1:= ?_) ?_ ?_
   rotate_left 2
   ·(go_simp;constructor<;>rfl)
   refine⟨HSB.out _ ((Touch.refl _ _).drew.alloc _), ?_⟩
   simp only[Act.put,zpa,zpb,zpc]
   refine par_one 15 (by simp only[zga,zgb,zgc];rfl) (by kernel_rfl) (by rfl) ?_
   refine owp_val (v:= ?_) (w1:= ?_) ?_ ?_
   rotate_left 2
   ·(go_simp;constructor<;>rfl)
   refine⟨HSB.out _ (((Touch.refl _ _).drew.alloc _).alloc _), ?_⟩
   simp only[Act.put,zpa,zpb,zpc]
   refine par_one 17 (by simp only[zga,zgb,zgc];rfl) (by kernel_rfl) (by rfl) ?_
   refine owp_store_node (.tmp 6) (.tmp 19) rfl (W1.heap.size+1) true (.slice (some ⟨g,o,none⟩) H kc) (.slice none 0 0) (.slice none 0 0) ⟨true,n.keys.take H,[],[]⟩ rfl rfl rfl ((rows_two W1).2) (by simp[Value.oneCell']) ?_
   intro w5 hr5 t5
   have HR7:=Lib.hid (rowIs_touch ((rows_two W1).1) t5 (by simp))
   have HT5:=Lib.hid ((((Touch.refl [W1.heap.size,W1.heap.size+1] W1).drew.alloc _).alloc _).trans t5 (fun b hb=> .inl (by simp at hb ⊢;omega)))
   have HR5:=Lib.hid hr5
   refine⟨HSB.out _ HT5.out, ?_⟩
   clear hr5 t5
   simp only[Act.put,zpa,zpb,zpc]
   refine par_one 18 (by simp only[zga,zgb,zgc];rfl) (by kernel_rfl) (by rfl) ?_
   refine owp_store_node (.tmp 7) (.tmp 22) rfl W1.heap.size true (.slice none 0 0) (.slice none 0 0) (.slice none 0 0) ⟨true,[],[],[]⟩ rfl rfl rfl HR7.out (by simp[Value.oneCell']) ?_
   intro w6 hr6 t6
   have HR6:=Lib.hid (rowIs_touch HR5.out t6 (by simp))
   have HT6:=Lib.hid (HT5.out.trans t6 (fun b hb=> .inl (by simp at hb ⊢;omega)))
   have HS6:=Lib.hid hr6
   refine⟨HSB.out _ HT6.out, ?_⟩
   clear hr6 t6 HT5 HR5 HR7
   simp only[Act.put,zpa,zpb,zpc]
   refine par_tail _ (by simp only[List.drop_succ_cons,List.drop_zero];rfl) (by kernel_rfl) ?_
   go_wp2_with fail
   refine NoPanic.normal ?_
   clear c0 c1 c2 c3
   have HB6:=Lib.hid (HB1.out.trans (HT6.out.below (Nat.le_of_lt HLT.out.1) (fun x hx=>by simp at hx;have:=HLT.out.1;omega)))
   have HQ0:=Lib.hid (rowIs_touch HR0.out HT6.out (by have:=HLT.out.1;simp;omega))
   have HQ2:=Lib.hid (rowIs_touch HR2.out HT6.out (by have:=World.rowIs.lt HR2.out;simp;omega))
   have HQ4:=Lib.hid (rowIs_touch HR4.out HT6.out (by have:=World.rowIs.lt HR4.out;simp;omega))
   have HN6:=Lib.hid (HI.out.below HB6.out)
   have HNE:=Lib.hid (show w.heap.size+1+1<W1.heap.size from World.rowIs.lt HR4.out)
   clear HR0 HR2 HR4 HT6 HSB HS0
   obtain⟨c0,c1,c2,c3⟩:=ndF_cells HQ0.out
   rw[hl] at c0
   obtain⟨a0,a1,a2,a3⟩:=ndF_cells HR6.out
   obtain⟨b0,b1,b2,b3⟩:=ndF_cells HS6.out
   have fa:=fun i=>World.rowIs.frozen HR6.out i
   have fb:=fun i=>World.rowIs.frozen HS6.out i
   go_wp2_with fail
   have hS6:(fun w':World=>w'.cell? ⟨w.heap.size,1,none⟩=some (.slice (some ⟨g,o,none⟩) n.keys.length kc)∧w'.cell? ⟨w.heap.size,2,none⟩=some (.slice (some ⟨gk,ok,none⟩) n.vals.length vc)) w6:=⟨c1,c2⟩
   have hlt6:=World.rowIs.lt HQ0.out
   have HSB6:=Lib.hid (fun(w':World) (t:Touch [W1.heap.size,W1.heap.size+1] w6 w')=>(show(fun w':World=>w'.cell? ⟨w.heap.size,1,none⟩=some (.slice (some ⟨g,o,none⟩) n.keys.length kc)∧w'.cell? ⟨w.heap.size,2,none⟩=some (.slice (some ⟨gk,ok,none⟩) n.vals.length vc)) w' from
    ⟨(t.cell (p:=⟨_,_,none⟩) hlt6 (by have:=HNE.out;simp;omega)).trans hS6.1,(t.cell (p:=⟨_,_,none⟩) hlt6 (by have:=HNE.out;simp;omega)).trans hS6.2⟩))
   clear hS6 hlt6
   refine wp_region_noPanic ?_
   refine wp_region_par 17 (by kernel_rfl) (by kernel_rfl) (by simp) (by kernel_rfl) (by kernel_rfl) (fun w':World=>w'.cell? ⟨w.heap.size,1,none⟩=some (.slice (some ⟨g,o,none⟩) n.keys.length kc)∧w'.cell? ⟨w.heap.size,2,none⟩=some (.slice (some ⟨gk,ok,none⟩) n.vals.length vc)) (HSB6.out _ (Touch.refl _ _).drew) ?_
   refine par_read (v:= ?_) 0 (by simp only[zga,zgb,zgc];rfl) (by kernel_rfl) (by rfl) ?_ (fun _ _ _ h=>h) ?_
   rotate_left
   ·(intro w9 hSw;(try dsimp only at hSw);go_simp;try with_reducible rfl)
   simp only[Act.put,zpa,zpb,zpc]
   refine par_read (v:= ?_) 1 (by simp only[zga,zgb,zgc];rfl) (by kernel_rfl) (by rfl) ?_ (fun _ _ _ h=>h) ?_
   rotate_left
   ·(intro w9 hSw;(try dsimp only at hSw);go_simp;try with_reducible rfl)
   simp only[Act.put,zpa,zpb,zpc]
   refine par_read (v:= ?_) 2 (by simp only[zga,zgb,zgc];rfl) (by kernel_rfl) (by rfl) ?_ (fun _ _ _ h=>h) ?_
   rotate_left
   ·(intro w9 hSw;(try dsimp only at hSw);go_simp;try with_reducible rfl)
   simp only[Act.put,zpa,zpb,zpc]
   refine par_read (v:= ?_) 3 (by simp only[zga,zgb,zgc];rfl) (by kernel_rfl) (by rfl) ?_ (fun _ _ _ h=>h) ?_
   rotate_left
   ·(intro w9 hSw;(try dsimp only at hSw);go_simp;try with_reducible rfl)
   simp only[Act.put,zpa,zpb,zpc]
   refine par_read (v:= ?_) 4 (by simp only[zga,zgb,zgc];rfl) (by kernel_rfl) (by rfl) ?_ (fun _ _ _ h=>h) ?_
   rotate_left
   ·(intro w9 hSw;(try dsimp only at hSw);go_simp;try with_reducible rfl)
   simp only[Act.put,zpa,zpb,zpc]
   refine par_read (v:= ?_) 5 (by simp only[zga,zgb,zgc];rfl) (by kernel_rfl) (by rfl) ?_ (fun _ _ _ h=>h) ?_
   rotate_left
   ·(intro w9 hSw;(try dsimp only at hSw);go_simp;try with_reducible rfl)
   simp only[Act.put,zpa,zpb,zpc]
   refine par_read (v:= ?_) 6 (by simp only[zga,zgb,zgc];rfl) (by kernel_rfl) (by rfl) ?_ (fun _ _ _ h=>h) ?_
   rotate_left
   ·(intro w9 hSw;(try dsimp only at hSw);go_simp;try with_reducible rfl)
   simp only[Act.put,zpa,zpb,zpc]
   refine par_read (v:= ?_) 7 (by simp only[zga,zgb,zgc];rfl) (by kernel_rfl) (by rfl) ?_ (fun _ _ _ h=>h) ?_
   rotate_left
   ·(intro w9 hSw;(try dsimp only at hSw);go_simp;try with_reducible rfl)
   simp only[Act.put,zpa,zpb,zpc]
   refine par_read (v:= ?_) 8 (by simp only[zga,zgb,zgc];rfl) (by kernel_rfl) (by rfl) ?_ (fun _ _ _ h=>h) ?_
   rotate_left
   ·(intro w9 hSw;(try dsimp only at hSw);go_simp;try with_reducible rfl)
   simp only[Act.put,zpa,zpb,zpc]
   refine par_read (v:= ?_) 9 (by simp only[zga,zgb,zgc];rfl) (by kernel_rfl) (by rfl) ?_ (fun _ _ _ h=>h) ?_
   rotate_left
   ·(intro w9 hSw;(try dsimp only at hSw);go_simp;try with_reducible rfl)
   simp only[Act.put,zpa,zpb,zpc]
   refine par_read (v:= ?_) 10 (by simp only[zga,zgb,zgc];rfl) (by kernel_rfl) (by rfl) ?_ (fun _ _ _ h=>h) ?_
   rotate_left
   ·(intro w9 hSw;(try dsimp only at hSw);go_simp;try with_reducible rfl)
   simp only[Act.put,zpa,zpb,zpc]
   refine par_read (v:= ?_) 11 (by simp only[zga,zgb,zgc];rfl) (by kernel_rfl) (by rfl) ?_ (fun _ _ _ h=>h) ?_
   rotate_left
   ·(intro w9 hSw;(try dsimp only at hSw);go_simp;try with_reducible rfl)
   simp only[Act.put,zpa,zpb,zpc]
   refine par_read (v:= ?_) 12 (by simp only[zga,zgb,zgc];rfl) (by kernel_rfl) (by rfl) ?_ (fun _ _ _ h=>h) ?_
   rotate_left
   ·(intro w9 hSw;(try dsimp only at hSw);go_simp;try with_reducible rfl)
   simp only[Act.put,zpa,zpb,zpc]
   refine par_one 13 (by simp only[zga,zgb,zgc];rfl) (by kernel_rfl) (by rfl) ?_
   refine owp_skip (w1:= ?_) ?_ ?_
   rotate_left
   ·(go_simp;first|rfl|(constructor<;>rfl))
   refine⟨HSB6.out _ ((Touch.refl _ _).drew.setCell (.inl (by simp)) _), ?_⟩
   simp only[Act.put,zpa,zpb,zpc]
   refine par_read (v:= ?_) 14 (by simp only[zga,zgb,zgc];rfl) (by kernel_rfl) (by rfl) ?_ (fun _ _ _ h=>h) ?_
   rotate_left
   ·(intro w9 hSw;(try dsimp only at hSw);go_simp;try with_reducible rfl)
   simp only[Act.put,zpa,zpb,zpc]
   refine par_one 15 (by simp only[zga,zgb,zgc];rfl) (by kernel_rfl) (by rfl) ?_
   refine owp_skip (w1:= ?_) ?_ ?_
   rotate_left
   ·(go_simp;first|rfl|(constructor<;>rfl))
   refine⟨HSB6.out _ (((Touch.refl _ _).drew.setCell (.inl (by simp)) _).setCell (.inl (by simp)) _), ?_⟩
   simp only[Act.put,zpa,zpb,zpc]
   refine par_read (v:= ?_) 16 (by simp only[zga,zgb,zgc];rfl) (by kernel_rfl) (by rfl) ?_ (fun _ _ _ h=>h) ?_
   rotate_left
   ·(intro w9 hSw;(try dsimp only at hSw);go_simp;try with_reducible rfl)
   simp only[Act.put,zpa,zpb,zpc]
   refine par_tail _ (by simp only[List.drop_succ_cons,List.drop_zero];rfl) (by kernel_rfl) ?_
   go_wp2_with fail
   refine NoPanic.normal ?_
   clear HSB6
   go_wp2_with fail
   refine wp_name (fun W8 hW8=> ?_)
   have HR8:=Lib.hid (show W8.rowIs (W1.heap.size+1) 109 4 (ndF (.slice (some ⟨g,o,none⟩) H kc) (.slice (some ⟨gk,ok,none⟩) H vc) (.slice none 0 0) (⟨true,n.keys.take H,n.vals.take H,[]⟩:ND)) by
    rw[←hW8]
    refine World.rowIs.congr ((((show w6.drew.rowIs _ _ _ _ from HR6.out).set 2 _).setOther (by simp) _).setOther (by simp) _) (fun j hj=> ?_)
    rcases j with _|_|_|_|j<;>first|rfl|(exfalso;omega))
   have HS8:=Lib.hid (show W8.rowIs W1.heap.size 109 4 (ndF (.slice (some ⟨g,o+H,none⟩) (n.keys.length-H) (kc-H)) (.slice (some ⟨gk,ok+H,none⟩) (n.vals.length-H) (vc-H)) (.slice none 0 0) (⟨true,n.keys.drop H,n.vals.drop H,[]⟩:ND)) by
    rw[←hW8]
    refine World.rowIs.congr ((((show w6.drew.rowIs _ _ _ _ from HS6.out).setOther (by simp) _).set 1 _).set 2 _) (fun j hj=> ?_)
    rcases j with _|_|_|_|j<;>first|rfl|(exfalso;omega))
   have HT8:=Lib.hid (show Touch [W1.heap.size,W1.heap.size+1] w6 W8 by
    rw[←hW8]
    exact(((Touch.refl _ _).drew.setCell (.inl (by simp)) _).setCell (.inl (by simp)) _).setCell (.inl (by simp)) _)
   have HB8:=Lib.hid (HB6.out.trans (HT8.out.below HB6.out.size (fun x hx=>by simp at hx;have:=HNE.out;omega)))
   have HP2:=Lib.hid (rowIs_touch HQ2.out HT8.out (by have:=HNE.out;simp;omega))
   have HP4:=Lib.hid (rowIs_touch HQ4.out HT8.out (by have:=HNE.out;simp;omega))
   clear hW8 a0 a1 a2 a3 b0 b1 b2 b3 c0 c1 c2 c3 fa fb HQ0 HQ2 HQ4 HR6 HS6 HN6
   obtain⟨a0,a1,a2,a3⟩:=ndF_cells HR8.out
   obtain⟨b0,b1,b2,b3⟩:=ndF_cells HS8.out
   have a0:W8.cell? ⟨(W1.heap.size+1),0,none⟩=some (.bool true):=a0
   have b0:W8.cell? ⟨W1.heap.size,0,none⟩=some (.bool true):=b0
   have hS8:(fun w':World=>(w'.cell? ⟨(W1.heap.size+1),0,none⟩=some (.bool true)∧w'.cell? ⟨(W1.heap.size+1),1,none⟩=some (.slice (some ⟨g,o,none⟩) H kc)∧w'.cell? ⟨(W1.heap.size+1),2,none⟩=some (.slice (some ⟨gk,ok,none⟩) H vc)∧w'.cell? ⟨(W1.heap.size+1),3,none⟩=some (.slice none 0 0))∧w'.cell? ⟨W1.heap.size,0,none⟩=some (.bool true)∧w'.cell? ⟨W1.heap.size,1,none⟩=some (.slice (some ⟨g,o+H,none⟩) (n.keys.length-H) (kc-H))∧w'.cell? ⟨W1.heap.size,2,none⟩=some (.slice (some ⟨gk,ok+H,none⟩) (n.vals.length-H) (vc-H))∧w'.cell? ⟨W1.heap.size,3,none⟩=some (.slice none 0 0)) W8:=⟨⟨a0,a1,a2,a3⟩,b0,b1,b2,b3⟩
   have HSB8:=Lib.hid (fun(w':World) (t:Touch [w.heap.size+1,w.heap.size+1+1] W8 w')=>(show(fun w':World=>(w'.cell? ⟨(W1.heap.size+1),0,none⟩=some (.bool true)∧w'.cell? ⟨(W1.heap.size+1),1,none⟩=some (.slice (some ⟨g,o,none⟩) H kc)∧w'.cell? ⟨(W1.heap.size+1),2,none⟩=some (.slice (some ⟨gk,ok,none⟩) H vc)∧w'.cell? ⟨(W1.heap.size+1),3,none⟩=some (.slice none 0 0))∧w'.cell? ⟨W1.heap.size,0,none⟩=some (.bool true)∧w'.cell? ⟨W1.heap.size,1,none⟩=some (.slice (some ⟨g,o+H,none⟩) (n.keys.length-H) (kc-H))∧w'.cell? ⟨W1.heap.size,2,none⟩=some (.slice (some ⟨gk,ok+H,none⟩) (n.vals.length-H) (vc-H))∧w'.cell? ⟨W1.heap.size,3,none⟩=some (.slice none 0 0)) w' from by
    have k: ∀i,w'.cell? ⟨(W1.heap.size+1),i,none⟩=W8.cell? ⟨(W1.heap.size+1),i,none⟩∧w'.cell? ⟨W1.heap.size,i,none⟩=W8.cell? ⟨W1.heap.size,i,none⟩:=fun i=>⟨t.cell (p:=⟨_,_,none⟩) (World.rowIs.lt HR8.out) (by have:=HNE.out;simp;omega),t.cell (p:=⟨_,_,none⟩) (World.rowIs.lt HS8.out) (by have:=HNE.out;simp;omega)⟩
    exact⟨⟨(k 0).1.trans a0,(k 1).1.trans a1,(k 2).1.trans a2,(k 3).1.trans a3⟩,(k 0).2.trans b0,(k 1).2.trans b1,(k 2).2.trans b2,(k 3).2.trans b3⟩))
   clear hS8
   refine wp_region_noPanic ?_
   refine wp_region_par 5 (by kernel_rfl) (by kernel_rfl) (by simp) (by kernel_rfl) (by kernel_rfl) (fun w':World=>(w'.cell? ⟨(W1.heap.size+1),0,none⟩=some (.bool true)∧w'.cell? ⟨(W1.heap.size+1),1,none⟩=some (.slice (some ⟨g,o,none⟩) H kc)∧w'.cell? ⟨(W1.heap.size+1),2,none⟩=some (.slice (some ⟨gk,ok,none⟩) H vc)∧w'.cell? ⟨(W1.heap.size+1),3,none⟩=some (.slice none 0 0))∧w'.cell? ⟨W1.heap.size,0,none⟩=some (.bool true)∧w'.cell? ⟨W1.heap.size,1,none⟩=some (.slice (some ⟨g,o+H,none⟩) (n.keys.length-H) (kc-H))∧w'.cell? ⟨W1.heap.size,2,none⟩=some (.slice (some ⟨gk,ok+H,none⟩) (n.vals.length-H) (vc-H))∧w'.cell? ⟨W1.heap.size,3,none⟩=some (.slice none 0 0)) (HSB8.out _ (Touch.refl _ _).drew) ?_
   refine par_read (v:= ?_) 0 (by simp only[zga,zgb,zgc];rfl) (by kernel_rfl) (by rfl) ?_ (fun _ _ _ h=>h) ?_
   rotate_left
   ·(intro w9 hSw;(try dsimp only at hSw);go_simp;try with_reducible rfl)
   simp only[Act.put,zpa,zpb,zpc]
   refine par_read (v:= ?_) 1 (by simp only[zga,zgb,zgc];rfl) (by kernel_rfl) (by rfl) ?_ (fun _ _ _ h=>h) ?_
   rotate_left
   ·(intro w9 hSw;(try dsimp only at hSw);go_simp;try with_reducible rfl)
   simp only[Act.put,zpa,zpb,zpc]
   refine par_read (v:= ?_) 2 (by simp only[zga,zgb,zgc];rfl) (by kernel_rfl) (by rfl) ?_ (fun _ _ _ h=>h) ?_
   rotate_left
   ·(intro w9 hSw;(try dsimp only at hSw);go_simp;try with_reducible rfl)
   simp only[Act.put,zpa,zpb,zpc]
   refine par_one 3 (by simp only[zga,zgb,zgc];rfl) (by kernel_rfl) (by rfl) ?_
   refine owp_store_node (.tmp 2) (.tmp 63) rfl (w.heap.size+1) true (.slice (some ⟨g,o,none⟩) H kc) (.slice (some ⟨gk,ok,none⟩) H vc) (.slice none 0 0) (⟨true,n.keys.take H,n.vals.take H,[]⟩:ND) rfl rfl rfl (show W8.drew.rowIs _ _ _ _ from HP2.out) (by simp[Value.oneCell']) ?_
   intro w10 hr10 t10
   have HRA:=Lib.hid hr10
   have HTA:=Lib.hid (show Touch [w.heap.size+1] W8 w10 from(Touch.refl [w.heap.size+1] W8).drew.trans t10 (fun b hb=> .inl hb))
   clear hr10 t10
   refine⟨HSB8.out _ (HTA.out.mono (fun b hb=> .inl (by simp at hb;simp[hb]))), ?_⟩
   simp only[Act.put,zpa,zpb,zpc]
   refine par_one 4 (by simp only[zga,zgb,zgc];rfl) (by kernel_rfl) (by rfl) ?_
   refine owp_val (v:= ?_) (w1:= ?_) ?_ ?_
   rotate_left 2
   ·(go_simp;first|done|(constructor<;>rfl))
   refine⟨HSB8.out _ (HTA.out.mono (fun b hb=> .inl (by simp at hb;simp[hb]))), ?_⟩
   simp only[Act.put,zpa,zpb,zpc]
   refine par_tail _ (by simp only[List.drop_succ_cons,List.drop_zero];rfl) (by kernel_rfl) ?_
   go_wp2_with (refine wpList_store_node rfl (.tmp 4) (.tmp 65) rfl (w.heap.size+1+1) true (.slice (some ⟨g,o+H,none⟩) (n.keys.length-H) (kc-H)) (.slice (some ⟨gk,ok+H,none⟩) (n.vals.length-H) (vc-H)) (.slice none 0 0) (⟨true,n.keys.drop H,n.vals.drop H,[]⟩:ND) rfl rfl rfl (rowIs_touch HP4.out HTA.out (by simp)) (by simp[Value.oneCell']) ?_;intro w11 hr11 t11;have HRB:=Lib.hid hr11;have HTB:=Lib.hid t11;clear hr11 t11)
   refine NoPanic.normal ?_
   go_wp2_with fail
   refine bodyPost_ret_by (res_node3 Tryz.results185 rfl rfl (rowIs_touch HRA.out HTB.out (by simp)) HRB.out) rfl ?_
   have hb11:=HB8.out.trans (((Touch.refl [w.heap.size+1,w.heap.size+1+1] W8).trans HTA.out (fun b hb=> .inl (by simp at hb ⊢;exact .inl hb))).trans HTB.out (fun b hb=> .inl (by simp at hb ⊢;exact .inr hb)) |>.below HB8.out.size (fun x hx=>by simp at hx;omega))
   refine⟨_,_,_,_,_,_,by rw[HA.out,HBB.out,HKK.out];rfl, ?_, ?_, ?_, ?_,hb11⟩
   ·rw[HA.out]
    exact HIA.out _ hb11
   ·rw[HBB.out]
    exact HIB.out _ hb11
   ·intro g9 hg9
    simp[ndBk,blkOf] at hg9 ⊢
    exact hg9.imp id (fun h=>by simp[h])
   ·intro g9 hg9
    simp[ndBk,blkOf] at hg9 ⊢
    exact hg9.imp id (fun h=>by simp[h])
end Go.Proofs.YtjgkegkinnlcoaaGreatDoor
