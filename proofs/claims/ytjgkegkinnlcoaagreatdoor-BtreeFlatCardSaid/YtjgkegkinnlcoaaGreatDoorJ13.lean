/- Lemmas on the way to the statement: BtSplit, Par3, BtIn, BtOps3. -/
import Derived.Test.YtjgkegkinnlcoaaGreatDoorJ12
set_option linter.unusedSimpArgs false
set_option linter.unusedVariables false
namespace Go.Proofs.YtjgkegkinnlcoaaGreatDoor
open Go.RowKit Go.Maps Go.Joins
def ptF (k n:Int):Nat→Value
 |0=> .int .u64 k
 |_=> .int .i64 n
theorem ptF_new (w:World) (k n:Int):(w.alloc (.cells #[.int .u64 k, .int .i64 n] 111)).rowIs w.heap.size 111 2 (ptF k n):=by
 refine World.rowIs_alloc w _ _ _ (fun i hi=> ?_)
 rcases i with _|_|i<;>first|rfl|(exfalso;simp at hi;done)|(exfalso;simp at hi;omega)
theorem Tryz.sizePart:(Tryz.prog.info? 111).map (·.size)=some 2:=by kernel_rfl
theorem wpList_store_part {ops:Array Oper} {rest:List Oper} {o:Oper} {a:Act} {w:World} {Q:Exit→Act→World→Prop} (hgd:o.guard=none) (x y:Operand) (ho:o.op= .store 111 x y)
  (g:Nat) (k n:Int) (hx:a.eval x= .pointer (some ⟨g,0,none⟩)) (hy:a.eval y= .agg #[.int .u64 k, .int .i64 n]) {f:Nat→Value} (hr:w.rowIs g 111 2 f)
  (h: ∀w',w'.rowIs g 111 2 (ptF k n)→Touch [g] w w'→wpList Tryz.prog ops Q rest (a.put o.dst undef) w'):wpList Tryz.prog ops Q (o::rest) a w:=by
 refine wpList_store_at hgd 111 x y ho g 0 2 #[.int .u64 k, .int .i64 n] hx hy 111 f hr Tryz.sizePart (show 0+2≤2 by decide) (by simp[Value.oneCell']) (fun w' hw' ht=>h w' (World.rowIs.congr hw' (fun j hj=> ?_)) ht)
 rcases j with _|_|j<;>first|rfl|(exfalso;omega)
theorem ptF_cells {w:World} {g:Nat} {k n:Int} (h:w.rowIs g 111 2 (ptF k n)):w.cell? ⟨g,0,none⟩=some (.int .u64 k)∧w.cell? ⟨g,1,none⟩=some (.int .i64 n):=
 ⟨World.rowIs.cell h (i:=0) (by decide),World.rowIs.cell h (i:=1) (by decide)⟩
theorem res_part2 {fn:Func} {p u:Tmp} {tmps:Array Value} {W:World} {g:Nat} {k n:Int} (h:fn.results= #[.cell p 111, .tmp u]) (hp:tmps.getD p undef= .pointer (some ⟨g,0,none⟩)) (hr:W.rowIs g 111 2 (ptF k n)):
  (results fn tmps).run Tryz.prog W= .ok (.tuple #[.agg #[.int .u64 k, .int .i64 n],tmps.getD u undef]) W:=by
 obtain⟨c,hc,hs,hi⟩:=hr
 have hcs:c= #[.int .u64 k, .int .i64 n]:=by
  apply Array.ext_getElem?
  intro i
  by_cases hlt:i<2
  ·rw[hi i hlt]
   rcases i with _|_|i<;>first|rfl|(exfalso;omega)
  ·rw[Array.getElem?_eq_none (by omega),Array.getElem?_eq_none (by simp;omega)]
 subst hcs
 rw[results_cell_tmp h]
 have hl:=run_loadVar_row (P:=Tryz.prog) W g _ 111 _ _ _ hc Tryz.underlying111 rfl (by kernel_rfl)
 simp only[hp,asAddr,Sem.run_pure,Result.andThen_ok,hl]
set_option maxRecDepth 100000 in
set_option maxHeartbeats 4000000 in
theorem split_any {w0 w:World} {p K J:Nat} {M:PM} {X:List Nat} {kv vv cv:Value} {n:ND} (h:PgX w0 w p K M X) (hK:K≤900000000000) (hn:NdI w kv vv cv n) (hs:NdSh n J) (hJ:J≤1000) (hx: ∀g∈ndBk kv vv cv,g∈X) (no:Int):
  Calls Tryz.prog 129 #[.pointer (some ⟨p,0,none⟩), .int .i64 no,ndV kv vv cv n] w fun e w'=>e= .returned (.tuple #[.agg #[.int .u64 (splitB M no n).1, .int .i64 (splitB M no n).2.1], .int .i64 (splitB M no n).2.2.1])∧PgX w0 w' p (K+20) (splitB M no n).2.2.2 X∧SameX X w w':=by
 obtain⟨ka,kc,rfl⟩:=hn.ks.form
 obtain⟨va,vc,rfl⟩:=hn.vs.form
 obtain⟨ca,cc,rfl⟩:=hn.cs.form
 have HN:=Lib.hid hn
 have HSH:=Lib.hid hs
 have HX:=Lib.hid h.lt
 have HXX:=Lib.hid hx
 have HPG:=Lib.hid h
 have HW:=Lib.hid h.below.size
 have HFU:=fun(w':World) (hb:Below w.heap.size w w')=>Lib.hid (full_any (hn.below hb))
 clear h hn hs hx
 by_cases hf:fullN n=false
 ·have hT:splitB M no n=(0,0,(writeB M no n).1,(writeB M no n).2):=by unfold splitB;rw[if_pos hf]
  rw[hT]
  rw[hf] at HFU
  have HPW:=fun(w':World) (hb:Below w.heap.size w w') (hg:w.heap.size+1<w'.heap.size)=>Lib.hid (bwrite_any (HPG.out.more hb (Nat.le_succ _) hg) (by omega) (HN.out.below hb) HSH.out hJ no)
  have HROW:=Lib.hid (rowIs_touch (ndF_new w (.slice ka n.keys.length kc) (.slice va n.vals.length vc) (.slice ca n.kids.length cc) n) (F:=[]) ((Touch.refl _ _).alloc (.cells #[.int .u64 0, .int .i64 0] 111)) (by simp))
  have HROP:=Lib.hid (show((w.alloc (.cells #[.bool n.leaf, .slice ka n.keys.length kc, .slice va n.vals.length vc, .slice ca n.kids.length cc] 109)).alloc (.cells #[.int .u64 0, .int .i64 0] 111)).rowIs (w.heap.size+1) 111 2 (ptF 0 0) by
   have h:=ptF_new (w.alloc (.cells #[.bool n.leaf, .slice ka n.keys.length kc, .slice va n.vals.length vc, .slice ca n.kids.length cc] 109)) 0 0
   rw[World.size_alloc_eq] at h
   exact h)
  unfold ndV at HPW HFU ⊢
  clear hT hf
  go_enter Tryz.func129,Tryz.ntmps129
  go_wp2_with fail
  refine(HFU _ (below_alloc (below_alloc (Below.refl _ _)))).out.mono ?_
  rintro e w1 ⟨rfl,hb⟩
  have HB1:=Lib.hid (below_step hb (below_alloc (below_alloc (Below.refl _ _))))
  have HR1:=Lib.hid (rowIs_touch HROW.out (F:=[]) (Touch.of_below hb) (by simp))
  have HP1:=Lib.hid (rowIs_touch HROP.out (F:=[]) (Touch.of_below hb) (by simp))
  obtain⟨c0,c1,c2,c3⟩:=ndF_cells HR1.out
  clear hb
  go_wp2_with fail
  refine(HPW _ HB1.out (World.rowIs.lt HP1.out)).out.mono ?_
  rintro e w2 ⟨rfl,hp,hs2⟩
  have HP2:=Lib.hid hp
  have HS2:=Lib.hid hs2
  have HQ2:=Lib.hid (hs2.row HP1.out (by simp))
  clear hp hs2 c0 c1 c2 c3
  go_wp2_with (refine wpList_store_part rfl (.tmp 6) (.tmp 16) rfl (w.heap.size+1) 0 0 rfl rfl HQ2.out ?_;intro w3 hr3 t3;have HR3:=Lib.hid hr3;have HT3:=Lib.hid t3;clear hr3 t3)
  refine bodyPost_ret_by (res_part2 Tryz.results129 rfl HR3.out) rfl ?_
  have hle:=HW.out
  refine⟨rfl,((HP2.out.touch HT3.out (fun x hx=>by simp at hx;subst hx;exact⟨by simp,by omega⟩)).sub (fun y hy=>by simp[hy])).mono (by omega),((SameX.of_below HB1.out HX.out).trans HS2.out.tail).trans (SameX.of_touch HT3.out (fun x hx=>⟨HP2.out.lt x (by simp[hx]),by have:=HX.out x hx;simp;omega⟩))⟩
 ·have hf:fullN n=true:=by simpa using hf
  have h3:3≤n.keys.length:=by
   unfold fullN at hf
   simp only[Bool.or_eq_true,Bool.and_eq_true,decide_eq_true_eq] at hf
   omega
  have hT:splitB M no n=if (freshB M (halfB n)).2.1≠0 then(0,0,(freshB M (halfB n)).2.1,(freshB M (halfB n)).2.2) else(halfK n,(freshB M (halfB n)).1,(writeB (freshB M (halfB n)).2.2 no (halfA n)).1,(writeB (freshB M (halfB n)).2.2 no (halfA n)).2):=by unfold splitB;rw[if_neg (by rw[hf];decide)]
  rw[hT]
  rw[hf] at HFU
  have hkl:=HSH.out.kl
  have HSA:=Lib.hid (HSH.out.halfA (by omega))
  have HSB:=Lib.hid (HSH.out.halfB (by omega))
  have HHV:=fun(w':World) (hb:Below w.heap.size w w')=>Lib.hid (halves_any (HN.out.below hb) HSH.out h3 (by omega))
  have HROW:=Lib.hid (rowIs_touch (ndF_new w (.slice ka n.keys.length kc) (.slice va n.vals.length vc) (.slice ca n.kids.length cc) n) (F:=[]) ((Touch.refl _ _).alloc (.cells #[.int .u64 0, .int .i64 0] 111)) (by simp))
  have HROP:=Lib.hid (show((w.alloc (.cells #[.bool n.leaf, .slice ka n.keys.length kc, .slice va n.vals.length vc, .slice ca n.kids.length cc] 109)).alloc (.cells #[.int .u64 0, .int .i64 0] 111)).rowIs (w.heap.size+1) 111 2 (ptF 0 0) by
   have h:=ptF_new (w.alloc (.cells #[.bool n.leaf, .slice ka n.keys.length kc, .slice va n.vals.length vc, .slice ca n.kids.length cc] 109)) 0 0
   rw[World.size_alloc_eq] at h
   exact h)
  unfold ndV at HHV HFU ⊢
  clear hT hf hkl
  have HFR:=fun(w':World) (h:PgX w0 w' p K M X)=>h
  generalize hFB:freshB M (halfB n)=FB
  obtain⟨fno,fer,M5⟩:=FB
  have HFB:=Lib.hid hFB
  simp only
  clear hFB HFR
  by_cases hfe:fer=0
  ·subst hfe
   rw[if_neg (by simp)]
   go_enter Tryz.func129,Tryz.ntmps129
   go_wp2_with fail
   refine(HFU _ (below_alloc (below_alloc (Below.refl _ _)))).out.mono ?_
   rintro e w1 ⟨rfl,hb⟩
   have HB1:=Lib.hid (below_step hb (below_alloc (below_alloc (Below.refl _ _))))
   have HR1:=Lib.hid (rowIs_touch HROW.out (F:=[]) (Touch.of_below hb) (by simp))
   have HP1:=Lib.hid (rowIs_touch HROP.out (F:=[]) (Touch.of_below hb) (by simp))
   obtain⟨c0,c1,c2,c3⟩:=ndF_cells HR1.out
   clear hb
   go_wp2_with fail
   refine(HHV _ HB1.out).out.mono ?_
   rintro e w2 ⟨kA,vA,cA,kB,vB,cB,rfl,hA,hB,hAb,hBb,hb2⟩
   obtain⟨kA,kAc,rfl⟩:=hA.ks.form
   obtain⟨vA,vAc,rfl⟩:=hA.vs.form
   obtain⟨cA,cAc,rfl⟩:=hA.cs.form
   obtain⟨kB,kBc,rfl⟩:=hB.ks.form
   obtain⟨vB,vBc,rfl⟩:=hB.vs.form
   obtain⟨cB,cBc,rfl⟩:=hB.cs.form
   have HA2:=Lib.hid hA
   have HB2N:=Lib.hid hB
   have HAB:=Lib.hid hAb
   have HBB:=Lib.hid hBb
   have HB2:=Lib.hid (below_step hb2 HB1.out)
   have HP2:=Lib.hid (rowIs_touch HP1.out (F:=[]) (Touch.of_below hb2) (by simp))
   have HLT2:=Lib.hid (World.rowIs.lt HP2.out)
   clear hA hB hAb hBb hb2 c0 c1 c2 c3 HR1 HP1
   simp only[ndV]
   go_wp2_with (first
    |(refine wpList_store_node rfl (.tmp 8) (.tmp 24) rfl w2.heap.size (halfA n).leaf (.slice kA (halfA n).keys.length kAc) (.slice vA (halfA n).vals.length vAc) (.slice cA (halfA n).kids.length cAc) (halfA n) rfl rfl rfl (rowIs_touch (ndF_new w2 (.slice none 0 0) (.slice none 0 0) (.slice none 0 0) nd0) (F:=[]) ((Touch.refl _ _).alloc _) (by simp)) (by simp[Value.oneCell']) ?_;intro w3 hr3 t3;have HR03:=Lib.hid hr3;have HT03:=Lib.hid t3;clear hr3 t3)
    |(refine wpList_store_node rfl (.tmp 10) (.tmp 26) rfl (w2.heap.size+1) (halfB n).leaf (.slice kB (halfB n).keys.length kBc) (.slice vB (halfB n).vals.length vBc) (.slice cB (halfB n).kids.length cBc) (halfB n) rfl rfl rfl (rowIs_touch (node0_row w2 _) HT03.out (by simp)) (by simp[Value.oneCell']) ?_;intro w4 hr4 t4;have HR04:=Lib.hid hr4;have HT04:=Lib.hid t4;obtain⟨d0,d1,d2,d3⟩:=ndF_cells hr4;clear hr4 t4))
   have ht4:Touch [w2.heap.size,w2.heap.size+1] w2 w4:=((((Touch.refl [w2.heap.size,w2.heap.size+1] w2).alloc _).alloc _).trans HT03.out (fun b hb=> .inl (by simp at hb;simp[hb]))).trans HT04.out (fun b hb=> .inl (by simp at hb;simp[hb]))
   have HB4:=Lib.hid (HB2.out.trans (ht4.below HB2.out.size (fun x hx=>by simp at hx;have:=HLT2.out;omega)))
   have HR3:=Lib.hid (rowIs_touch HR03.out HT04.out (by simp))
   have HQ4:=Lib.hid (rowIs_touch HP2.out ht4 (by have:=HLT2.out;simp;omega))
   have hoff: ∀g,g∈X→g∉ [w2.heap.size,w2.heap.size+1]:=fun g hg=>by have:=HX.out g hg;have:=HLT2.out;simp;omega
   have HNA:=Lib.hid (HA2.out.touch ht4 (fun g hg=>hoff g (HXX.out g (HAB.out g hg))))
   have HNB:=Lib.hid (HB2N.out.touch ht4 (fun g hg=>hoff g (HXX.out g (HBB.out g hg))))
   have HPX:=Lib.hid (HPG.out.move (Y:=(w.heap.size+1)::w2.heap.size::X) HB4.out (fun y hy=>by
    simp only[List.mem_cons] at hy
    have h1:=World.rowIs.lt HR3.out
    have h2:=World.rowIs.lt HQ4.out
    have h3:=HLT2.out
    rcases hy with rfl|rfl|hy
    ·exact .inr ⟨by omega,h2⟩
    ·exact .inr ⟨by omega,h1⟩
    ·exact .inl hy))
   have HFRC:=fresh_any HPX.out hK HNB.out HSB.out hJ (fun g hg=>by simp[HXX.out g (HBB.out g hg)])
   rw[HFB.out] at HFRC
   unfold ndV at HFRC
   have HFC:=Lib.hid HFRC
   clear ht4 hoff HFRC HR03 HT03 HR04 HT04 HA2 HB2N
   refine HFC.out.mono ?_
   rintro e w5 ⟨rfl,hp5,hs5⟩
   have HP5:=Lib.hid hp5
   have HS5:=Lib.hid hs5
   clear hp5 hs5 d0 d1 d2 d3
   have HWR:=bwrite_any (no:=no) HP5.out (by omega) (HNA.out.same HS5.out (fun g hg=>by simp[HXX.out g (HAB.out g hg)])) HSA.out hJ
   unfold ndV at HWR
   have HWW:=Lib.hid HWR
   have HR8:=Lib.hid (HS5.out.row HR3.out (by simp))
   obtain⟨c0,c1,c2,c3⟩:=ndF_cells HR8.out
   clear HWR
   go_wp2_with fail
   refine HWW.out.mono ?_
   rintro e w6 ⟨rfl,hp,hs6⟩
   have HP6:=Lib.hid hp
   have HS6:=Lib.hid hs6
   have HQ6:=Lib.hid (hs6.row (HS5.out.row HQ4.out (by simp)) (by simp))
   clear hp hs6 c0 c1 c2 c3
   go_wp2_with (refine wpList_store_part rfl (.tmp 6) (.tmp 39) rfl (w.heap.size+1) (halfK n) fno rfl rfl HQ6.out ?_;intro w7 hr7 t7;have HR7:=Lib.hid hr7;have HT7:=Lib.hid t7;clear hr7 t7)
   refine bodyPost_ret_by (res_part2 Tryz.results129 rfl HR7.out) rfl ?_
   have hle:=HW.out
   refine⟨rfl,((HP6.out.touch HT7.out (fun x hx=>by simp at hx;subst hx;exact⟨by simp,by omega⟩)).sub (fun y hy=>by simp[hy])).mono (by omega),(((SameX.of_below HB4.out HX.out).trans HS5.out.tail.tail).trans HS6.out.tail.tail).trans (SameX.of_touch HT7.out (fun x hx=>⟨HP6.out.lt x (by simp[hx]),by have:=HX.out x hx;simp;omega⟩))⟩
  ·have e1:(fer != 0)=true:=by simpa using hfe
   rw[if_pos hfe]
   go_enter Tryz.func129,Tryz.ntmps129
   go_wp2_with fail
   refine(HFU _ (below_alloc (below_alloc (Below.refl _ _)))).out.mono ?_
   rintro e w1 ⟨rfl,hb⟩
   have HB1:=Lib.hid (below_step hb (below_alloc (below_alloc (Below.refl _ _))))
   have HR1:=Lib.hid (rowIs_touch HROW.out (F:=[]) (Touch.of_below hb) (by simp))
   have HP1:=Lib.hid (rowIs_touch HROP.out (F:=[]) (Touch.of_below hb) (by simp))
   obtain⟨c0,c1,c2,c3⟩:=ndF_cells HR1.out
   clear hb
   go_wp2_with fail
   refine(HHV _ HB1.out).out.mono ?_
   rintro e w2 ⟨kA,vA,cA,kB,vB,cB,rfl,hA,hB,hAb,hBb,hb2⟩
   obtain⟨kA,kAc,rfl⟩:=hA.ks.form
   obtain⟨vA,vAc,rfl⟩:=hA.vs.form
   obtain⟨cA,cAc,rfl⟩:=hA.cs.form
   obtain⟨kB,kBc,rfl⟩:=hB.ks.form
   obtain⟨vB,vBc,rfl⟩:=hB.vs.form
   obtain⟨cB,cBc,rfl⟩:=hB.cs.form
   have HA2:=Lib.hid hA
   have HB2N:=Lib.hid hB
   have HAB:=Lib.hid hAb
   have HBB:=Lib.hid hBb
   have HB2:=Lib.hid (below_step hb2 HB1.out)
   have HP2:=Lib.hid (rowIs_touch HP1.out (F:=[]) (Touch.of_below hb2) (by simp))
   have HLT2:=Lib.hid (World.rowIs.lt HP2.out)
   clear hA hB hAb hBb hb2 c0 c1 c2 c3 HR1 HP1
   simp only[ndV]
   go_wp2_with (first
    |(refine wpList_store_node rfl (.tmp 8) (.tmp 24) rfl w2.heap.size (halfA n).leaf (.slice kA (halfA n).keys.length kAc) (.slice vA (halfA n).vals.length vAc) (.slice cA (halfA n).kids.length cAc) (halfA n) rfl rfl rfl (rowIs_touch (ndF_new w2 (.slice none 0 0) (.slice none 0 0) (.slice none 0 0) nd0) (F:=[]) ((Touch.refl _ _).alloc _) (by simp)) (by simp[Value.oneCell']) ?_;intro w3 hr3 t3;have HR03:=Lib.hid hr3;have HT03:=Lib.hid t3;clear hr3 t3)
    |(refine wpList_store_node rfl (.tmp 10) (.tmp 26) rfl (w2.heap.size+1) (halfB n).leaf (.slice kB (halfB n).keys.length kBc) (.slice vB (halfB n).vals.length vBc) (.slice cB (halfB n).kids.length cBc) (halfB n) rfl rfl rfl (rowIs_touch (node0_row w2 _) HT03.out (by simp)) (by simp[Value.oneCell']) ?_;intro w4 hr4 t4;have HR04:=Lib.hid hr4;have HT04:=Lib.hid t4;obtain⟨d0,d1,d2,d3⟩:=ndF_cells hr4;clear hr4 t4))
   have ht4:Touch [w2.heap.size,w2.heap.size+1] w2 w4:=((((Touch.refl [w2.heap.size,w2.heap.size+1] w2).alloc _).alloc _).trans HT03.out (fun b hb=> .inl (by simp at hb;simp[hb]))).trans HT04.out (fun b hb=> .inl (by simp at hb;simp[hb]))
   have HB4:=Lib.hid (HB2.out.trans (ht4.below HB2.out.size (fun x hx=>by simp at hx;have:=HLT2.out;omega)))
   have HR3:=Lib.hid (rowIs_touch HR03.out HT04.out (by simp))
   have HQ4:=Lib.hid (rowIs_touch HP2.out ht4 (by have:=HLT2.out;simp;omega))
   have hoff: ∀g,g∈X→g∉ [w2.heap.size,w2.heap.size+1]:=fun g hg=>by have:=HX.out g hg;have:=HLT2.out;simp;omega
   have HNA:=Lib.hid (HA2.out.touch ht4 (fun g hg=>hoff g (HXX.out g (HAB.out g hg))))
   have HNB:=Lib.hid (HB2N.out.touch ht4 (fun g hg=>hoff g (HXX.out g (HBB.out g hg))))
   have HPX:=Lib.hid (HPG.out.move (Y:=(w.heap.size+1)::w2.heap.size::X) HB4.out (fun y hy=>by
    simp only[List.mem_cons] at hy
    have h1:=World.rowIs.lt HR3.out
    have h2:=World.rowIs.lt HQ4.out
    have h3:=HLT2.out
    rcases hy with rfl|rfl|hy
    ·exact .inr ⟨by omega,h2⟩
    ·exact .inr ⟨by omega,h1⟩
    ·exact .inl hy))
   have HFRC:=fresh_any HPX.out hK HNB.out HSB.out hJ (fun g hg=>by simp[HXX.out g (HBB.out g hg)])
   rw[HFB.out] at HFRC
   unfold ndV at HFRC
   have HFC:=Lib.hid HFRC
   clear ht4 hoff HFRC HR03 HT03 HR04 HT04 HA2 HB2N
   refine HFC.out.mono ?_
   rintro e w5 ⟨rfl,hp5,hs5⟩
   have HP5:=Lib.hid hp5
   have HS5:=Lib.hid hs5
   clear hp5 hs5 d0 d1 d2 d3
   have HQ5:=Lib.hid (HS5.out.row HQ4.out (by simp))
   go_wp2_with (refine wpList_store_part rfl (.tmp 6) (.tmp 35) rfl (w.heap.size+1) 0 0 rfl rfl HQ5.out ?_;intro w7 hr7 t7;have HR7:=Lib.hid hr7;have HT7:=Lib.hid t7;clear hr7 t7)
   refine bodyPost_ret_by (res_part2 Tryz.results129 rfl HR7.out) rfl ?_
   have hle:=HW.out
   refine⟨rfl,((HP5.out.touch HT7.out (fun x hx=>by simp at hx;subst hx;exact⟨by simp,by omega⟩)).sub (fun y hy=>by simp[hy])).mono (by omega),((SameX.of_below HB4.out HX.out).trans HS5.out.tail.tail).trans (SameX.of_touch HT7.out (fun x hx=>⟨HP5.out.lt x (by simp[hx]),by have:=HX.out x hx;simp;omega⟩))⟩
end Go.Proofs.YtjgkegkinnlcoaaGreatDoor
namespace Go.Proofs.YtjgkegkinnlcoaaGreatDoor
open Go.RowKit
section
variable {P:Program} {md:Region.Mode} {ops:Array Oper} {Q:Exit→Act→World→Prop} {S:World→Prop} {B:Nat→Bool}
def wpAny3 (P:Program) (md:Region.Mode) (ops:Array Oper) (Q:Exit→Act→World→Prop) (S:World→Prop) (B:Nat→Bool):Nat→Array Bool→Act→World→Prop
 |0,listed,a,w=>Region.ready md ops listed=[]∧Q .normal a w
 |f+1,listed,a,w=>(Region.ready md ops listed=[]→Q .normal a w)∧
  ∀i∈Region.ready md ops listed,wpOp P ops Q i (fun a' w'=>(S w→B i=true→S w')∧wpAny3 P md ops Q S B f (listed.setIfInBounds i true) a' w') a w
theorem wpAny_of_3: ∀(f:Nat) (listed:Array Bool) (a:Act) (w:World),wpAny3 P md ops Q S B f listed a w→wpAny P md ops Q f listed a w
 |0,_,_,_,h=>h
 |f+1,_,_,_,h=>⟨h.1,fun i hi=>wpOp_mono (fun a' w' h'=>wpAny_of_3 f _ a' w' h'.2) (h.2 i hi)⟩
def reachB (md:Region.Mode) (ops:Array Oper) (i:Nat):Nat→Nat→Bool
 |0,_=>false
 |f+1,j=>((ops[j]?).map fun o=>o.after.any fun e=>Region.binds md e&&(e.on==i||reachB md ops i f e.on)).getD false
theorem reachB_listed {n i:Nat} {listed:Array Bool} (inv:HeadInv md ops n listed): ∀(f j:Nat) {oj:Oper},reachB md ops i f j=true→ops[j]? =some oj→(∀e∈oj.after,Region.binds md e=true→listed.getD e.on false=true)→listed.getD i false=true
 |0,j,oj,h,_,_=>by cases h
 |f+1,j,oj,h,hj,hl=>by
  unfold reachB at h
  rw[hj] at h
  simp only[Option.map_some,Option.getD_some] at h
  obtain⟨e,he,hb⟩:=Array.any_eq_true'.1 h
  simp only[Bool.and_eq_true,Bool.or_eq_true,beq_iff_eq] at hb
  have h1:=hl e he hb.1
  rcases hb.2 with h2|h2
  ·rw[←h2];exact h1
  ·cases hk:ops[e.on]? with
   |none=>
    have h3:f=0∨ ∃g,f=g+1:=by cases f<;>simp
    rcases h3 with rfl|⟨g,rfl⟩
    ·cases h2
    ·unfold reachB at h2
     rw[hk] at h2
     cases h2
   |some ok=>exact reachB_listed inv f e.on h2 hk (fun e' he' hb'=>inv.closed _ _ hk h1 e' he' hb')
def allWait (md:Region.Mode) (ops:Array Oper) (B:Nat→Bool) (i:Nat):Bool:=
 (List.range ops.size).all fun j=>B j||reachB md ops i 4 j
theorem allWait_spec {n i j:Nat} {oj:Oper} {listed:Array Bool} (inv:HeadInv md ops n listed) (h:allWait md ops B i=true) (hj:ops[j]? =some oj) (hl: ∀e∈oj.after,Region.binds md e=true→listed.getD e.on false=true) (hi:listed.getD i false=false):B j=true:=by
 have hlt:j<ops.size:=(Array.getElem?_eq_some_iff.1 hj).1
 have h:=List.all_eq_true.1 h j (List.mem_range.2 hlt)
 simp only[Bool.or_eq_true] at h
 rcases h with h|h
 ·exact h
 ·rw[reachB_listed inv 4 j h hj hl] at hi
  cases hi
theorem wpAny3_first {m i:Nat} {oi:Oper} {v:Value} (c:Bool) (T:TailOk md ops m) (hi:ops[i]? =some oi) (him:i<m) (hc:c=true→allWait md ops B i=true) (hQ: ∀c a w,Q (.panic c) (a.put oi.dst v) w→Q (.panic c) a w) (f:Nat):
  ∀(listed:Array Bool) (a:Act) (w:World),HeadInv md ops m listed→Apart md ops i oi listed→i∈Region.ready md ops listed→YieldsIf P ops (fun w=>c=true→S w) oi v a→(c=true→S w)→
   wpAny3 P md ops Q S B f (listed.setIfInBounds i true) (a.put oi.dst v) w→wpAny3 P md ops Q S B (f+1) listed a w:=by
 induction f with
 |zero=>
  intro listed a w inv hap hr hy hS H
  refine⟨fun h=>absurd hr (by rw[h];simp),fun j hj=> ?_⟩
  rcases Decidable.em (j=i) with rfl|hne
  ·exact hy.wpOp hi hS ⟨fun h _=>h,H⟩
  ·have:=ready_mono hj hne
   rw[H.1] at this
   cases this
 |succ f ih=>
  intro listed a w inv hap hr hy hS H
  refine⟨fun h=>absurd hr (by rw[h];simp),fun j hj=> ?_⟩
  have hjm:=T.head inv him hr hj
  rcases Decidable.em (j=i) with rfl|hne
  ·exact hy.wpOp hi hS ⟨fun h _=>h,H⟩
  ·have h1:=H.2 j (ready_mono hj hne)
   obtain⟨hjun,oj,hoj,hall⟩:=mem_ready.1 hj
   have hw: ∀e∈oj.after,Region.binds md e=true→e.on≠i:=by
    intro e he hb h
    have:=hall e he hb
    rw[h,getD_both (mem_ready.1 hr).1] at this
    cases this
   have h2:=wpOp_putIf hoj (hap j oj hoj hne hjun hw) (fun cs b=>T.sel i oi cs b hi) (fun cs b=>T.sel j oj cs b hoj) hQ hy h1
   refine wpOp_mono (fun a' w' h3=>⟨h3.2.1,ih _ a' w' (inv.set hj hjm) (hap.set hjun) (ready_mono hr (Ne.symm hne)) h3.1 (fun e=>h3.2.1 (hS e) (allWait_spec inv (hc e) hoj hall (getD_both (mem_ready.1 hr).1))) ?_⟩) h2
   rw[Array.setIfInBounds_comm _ _ hne]
   exact h3.2.2
theorem wpAny3_of_seq: ∀(l:List Oper) (k:Nat) (listed:Array Bool) (a:Act) (w:World),(∀j,k≤j→B j=false)→(∀j,l[j]? =ops[k+j]?)→Region.seqB md ops l.length k listed=true→wpList P ops Q l a w→wpAny3 P md ops Q S B l.length listed a w
 | [],_,_,_,_,_,_,hB,h=>⟨by simpa[Region.seqB] using hB,h⟩
 |o::l,k,listed,a,w,hm,hl,hB,h=>by
  have h0:ops[k]? =some o:=by simpa using (hl 0).symm
  simp only[List.length_cons,Region.seqB,Bool.and_eq_true,decide_eq_true_eq] at hB
  refine⟨fun h1=>(by rw[hB.1] at h1;cases h1),fun i hi=> ?_⟩
  rw[hB.1] at hi
  have hik:i=k:=by simpa using hi
  subst hik
  have hw:wpOp P ops Q i (wpList P ops Q l) a w:=by unfold wpOp;simp only[h0];exact h
  exact wpOp_mono (fun a' w' h'=>⟨fun _ hlt=>absurd hlt (by rw[hm i (Nat.le_refl _)];decide),wpAny3_of_seq l (i+1) _ a' w' (fun j hj=>hm j (by omega)) (fun j=>by have:=hl (j+1);simpa[Nat.add_assoc,Nat.add_comm 1 j] using this) hB.2 h'⟩) hw
end
section
variable {P:Program} {ops:Array Oper} {Q:Exit→Act→World→Prop} {S:World→Prop} {n b f:Nat} {listed:Array Bool} {a:Act} {w w1:World}
def wpPar3 (P:Program) (ops:Array Oper) (Q:Exit→Act→World→Prop) (S:World→Prop) (n b f:Nat) (listed:Array Bool) (a:Act) (w:World):Prop:=
 TailOk .any ops n→HeadInv .any ops n listed→b≤n→wpAny3 P .any ops Q S (fun j=>decide (j<b)) f listed a w
theorem par3_read {o:Oper} {v:Value} (i:Nat) (hi:ops[i]? =some o) (hB:(decide (i<n)&&(Region.ready .any ops listed).contains i&&Region.free .any ops listed i&&allWait .any ops (fun j=>decide (j<b)) i)=true)
  (hw:Region.wanted o (yielded ops a.tmps)=true) (hS:S w) (hy: ∀w,S w→(execOp a.eval o).run P w= .ok (.value v) w) (hQ: ∀c a w,Q (.panic c) (a.put o.dst v) w→Q (.panic c) a w)
  (h:wpPar3 P ops Q S n b f (listed.setIfInBounds i true) (a.put o.dst v) w):wpPar3 P ops Q S n b (f+1) listed a w:=fun T inv hb=>by
 simp only[Bool.and_eq_true,decide_eq_true_eq] at hB
 have hr:i∈Region.ready .any ops listed:=by simpa using hB.1.1.2
 exact wpAny3_first true T hi hB.1.1.1 (fun _=>hB.2) hQ f listed a w inv (Region.free_spec hi hB.1.2) hr (.inl ⟨hw,fun w h=>hy w (h rfl)⟩) (fun _=>hS) (h T (inv.set hr hB.1.1.1) hb)
theorem par3_move {o:Oper} {v:Value} (i:Nat) (hi:ops[i]? =some o) (hB:(decide (i<n)&&(Region.ready .any ops listed).contains i&&Region.free .any ops listed i)=true)
  (hw:Region.wanted o (yielded ops a.tmps)=true) (hy: ∀w,(execOp a.eval o).run P w= .ok (.value v) w) (hQ: ∀c a w,Q (.panic c) (a.put o.dst v) w→Q (.panic c) a w)
  (h:wpPar3 P ops Q S n b f (listed.setIfInBounds i true) (a.put o.dst v) w):wpPar3 P ops Q S n b (f+1) listed a w:=fun T inv hb=>by
 simp only[Bool.and_eq_true,decide_eq_true_eq] at hB
 have hr:i∈Region.ready .any ops listed:=by simpa using hB.1.2
 exact wpAny3_first false T hi hB.1.1 (fun e=>by cases e) hQ f listed a w inv (Region.free_spec hi hB.2) hr (.inl ⟨hw,fun w h=>hy w⟩) (fun e=>by cases e) (h T (inv.set hr hB.1.1) hb)
theorem par3_one {o:Oper} (i:Nat) (hi:ops[i]? =some o) (hB:(decide (i<n)&&decide (Region.ready .any ops listed=[i]))=true) (hw:Region.wanted o (yielded ops a.tmps)=true)
  (h:Owp P o a w (fun a' w'=>(S w→i<b→S w')∧wpPar3 P ops Q S n b f (listed.setIfInBounds i true) a' w') Q):wpPar3 P ops Q S n b (f+1) listed a w:=fun T inv hb=>by
 simp only[Bool.and_eq_true,decide_eq_true_eq] at hB
 refine⟨fun h1=>(by rw[hB.2] at h1;cases h1),fun k hk=> ?_⟩
 have hk0:=hk
 rw[hB.2] at hk
 obtain rfl:k=i:=by simpa using hk
 have hh:wpOp P ops Q k (fun a' w'=>(S w→k<b→S w')∧wpPar3 P ops Q S n b f (listed.setIfInBounds k true) a' w') a w:=by
  unfold wpOp
  simp only[hi,hw,if_true]
  exact .inl h.out
 exact wpOp_mono (fun a' w' h'=>⟨fun s e=>h'.1 s (by simpa using e),h'.2 T (inv.set hk0 hB.1) hb⟩) hh
theorem par3_two {o u:Oper} (i j:Nat) (hi:ops[i]? =some o) (hj:ops[j]? =some u) (hB:(decide (i<n)&&(decide (j<n)&&decide (Region.ready .any ops listed=[i,j])))=true) (hw:Region.wanted o (yielded ops a.tmps)=true) (hv:Region.wanted u (yielded ops a.tmps)=true)
  (h:Owp P o a w (fun a' w'=>(S w→i<b→S w')∧wpPar3 P ops Q S n b f (listed.setIfInBounds i true) a' w') Q) (k:Owp P u a w (fun a' w'=>(S w→j<b→S w')∧wpPar3 P ops Q S n b f (listed.setIfInBounds j true) a' w') Q):wpPar3 P ops Q S n b (f+1) listed a w:=fun T inv hb=>by
 simp only[Bool.and_eq_true,decide_eq_true_eq] at hB
 refine⟨fun h1=>(by rw[hB.2.2] at h1;cases h1),fun x hx=> ?_⟩
 have hx0:=hx
 rw[hB.2.2] at hx
 have hx:x=i∨x=j:=by simpa using hx
 rcases hx with rfl|rfl
 ·have hh:wpOp P ops Q x (fun a' w'=>(S w→x<b→S w')∧wpPar3 P ops Q S n b f (listed.setIfInBounds x true) a' w') a w:=by
   unfold wpOp
   simp only[hi,hw,if_true]
   exact .inl h.out
  exact wpOp_mono (fun a' w' h'=>⟨fun s e=>h'.1 s (by simpa using e),h'.2 T (inv.set hx0 hB.1) hb⟩) hh
 ·have hh:wpOp P ops Q x (fun a' w'=>(S w→x<b→S w')∧wpPar3 P ops Q S n b f (listed.setIfInBounds x true) a' w') a w:=by
   unfold wpOp
   simp only[hj,hv,if_true]
   exact .inl k.out
  exact wpOp_mono (fun a' w' h'=>⟨fun s e=>h'.1 s (by simpa using e),h'.2 T (inv.set hx0 hB.2.1) hb⟩) hh
theorem par3_tail (tl:List Oper) (htl:tl=ops.toList.drop n) (hB:(decide (f=tl.length)&&Region.seqB .any ops f n listed)=true) (h:wpList P ops Q tl a w):wpPar3 P ops Q S n b f listed a w:=fun T inv hb=>by
 simp only[Bool.and_eq_true,decide_eq_true_eq] at hB
 obtain⟨hf,hB⟩:=hB
 subst hf
 exact wpAny3_of_seq tl n listed a w (fun j hj=>by simp;omega) (fun j=>by rw[htl,List.getElem?_drop,Array.getElem?_toList]) hB h
theorem wp_region_par3 {id:Nat} {l:List Oper} (n b:Nat) (hm:P.follows .mixedOrders=true) (hsel:Region.noSelect l.toArray=true) (hn:n<l.length) (hb:b≤n) (hs:Region.sinkB .any l.toArray n=true) (hc:Region.chainB .any l.toArray n=true)
  (S:World→Prop) (h:wpPar3 P l.toArray Q S n b l.length (Array.replicate l.length false) a w.drew):(Code.region id l.toArray true).wp P Q a w:=by
 have T:TailOk .any l.toArray n:=⟨Region.noSelect_spec hsel,hs,hc,by simpa using hn⟩
 have inv0:HeadInv .any l.toArray n (Array.replicate l.length false):=
  ⟨by simp,fun j oj _ hj=>(by rw[getD_replicate_false] at hj;cases hj),fun t _ ht=>getD_in (by simpa using ht) (getD_replicate_false _ _)⟩
 refine wp_region_any hm (wpAny_of_3 (S:=S) (B:=fun j=>decide (j<b)) _ _ _ _ ?_)
 have K:=h T inv0 hb
 simpa using K
end
end Go.Proofs.YtjgkegkinnlcoaaGreatDoor
namespace Go.Proofs.YtjgkegkinnlcoaaGreatDoor
open Go.RowKit Go.Maps Go.Joins
section
variable {w0 w w1 w':World} {p K J B b:Nat} {M M':PM} {X Y F:List Nat} {kv vv cv v':Value} {n:ND} {lk lv lc l':List Int} {f:Nat→Value}
theorem PgX.turn (h:PgX w0 w p K M X) (t:Touch F w w') (hF: ∀x∈F,x∈X∧w0.heap.size≤x) (hY: ∀y∈Y,y∈X∨(w.heap.size≤y∧y<w'.heap.size)):PgX w0 w' p K M Y:=by
 refine⟨?_,h.s⟩
 have hf:=h.f
 obtain⟨d,lb,pb,hb,FD,FP,h,hd,hx⟩:=hf
 have hs:=h.below.size
 have hoff: ∀y∈pgBk p lb hb FD FP,y∉F:=fun y hy hm=>(hx y (hF y hm).1).2 hy
 refine⟨d,lb,pb,hb,FD,FP,⟨h.pin.touch t (hoff _ (by simp[pgBk])) (hoff _ (by simp[pgBk])) (hoff _ (by simp[pgBk])) (fun y hy=>hoff y (by simp[pgBk,hy])) (fun y hy=>hoff y (by simp[pgBk,hy])),h.fb,h.fl,h.fh,h.fd,h.fp,h.below.trans (t.below hs (fun x hx=>(hF x hx).2))⟩,hd,fun y hy=> ?_⟩
 rcases hY y hy with h1|⟨h1,h2⟩
 ·exact⟨Nat.lt_of_lt_of_le (hx y h1).1 t.size,(hx y h1).2⟩
 ·exact⟨h2,fun hm=>by have:=pgBk_lt h.pin y hm;omega⟩
structure InSt (w0 w w':World) (p K:Nat) (M:PM) (X:List Nat) (b B:Nat) (kv vv cv:Value) (lk lv lc:List Int) (f:Nat→Value):Prop where
 pg:PgX w0 w' p K M (ndBk kv vv cv++(b::X))
 box:w'.rowIs b 109 4 f
 ks:w'.ownsRow B 28 1 kv lk.length (lk.map (Value.int .u64))
 vs:w'.ownsRow B 28 1 vv lv.length (lv.map (Value.int .u64))
 cs:w'.ownsRow B 3 1 cv lc.length (lc.map (Value.int .i64))
 nd:(b::ndBk kv vv cv).Nodup
 xx: ∀x∈X,x∉ndBk kv vv cv∧x≠b
 hb:w0.heap.size≤b
 hB:w0.heap.size≤B
 sx:SameX X w w'
theorem InSt.pgX (h:InSt w0 w w' p K M X b B kv vv cv lk lv lc f):PgX w0 w' p K M X:=h.pg.sub (fun y hy=>by simp[hy])
theorem InSt.below (h:InSt w0 w w1 p K M X b B kv vv cv lk lv lc f) (hb:Below w1.heap.size w1 w'):InSt w0 w w' p K M X b B kv vv cv lk lv lc f:=
 ⟨h.pg.moveX hb,rowIs_touch h.box (F:=[]) (Touch.of_below hb) (by simp),ownsRow_touch h.ks (F:=[]) (Touch.of_below hb) (by simp),ownsRow_touch h.vs (F:=[]) (Touch.of_below hb) (by simp),ownsRow_touch h.cs (F:=[]) (Touch.of_below hb) (by simp),h.nd,h.xx,h.hb,h.hB,h.sx.trans (SameX.of_below hb h.pgX.lt)⟩
theorem InSt.set {f':Nat→Value} (h:InSt w0 w w1 p K M X b B kv vv cv lk lv lc f) (t:Touch [b] w1 w') (hr:w'.rowIs b 109 4 f'):InSt w0 w w' p K M X b B kv vv cv lk lv lc f':=by
 have hn:=(List.nodup_cons.1 h.nd).1
 refine⟨h.pg.touch t (fun x hx=>by simp at hx;subst hx;exact⟨by simp,h.hb⟩),hr,ownsRow_touch h.ks t (fun g hg=> ?_),ownsRow_touch h.vs t (fun g hg=> ?_),ownsRow_touch h.cs t (fun g hg=> ?_),h.nd,h.xx,h.hb,h.hB,h.sx.trans (SameX.of_touch t (fun x hx=>⟨h.pgX.lt x hx,by simp;exact(h.xx x hx).2⟩))⟩
 ·intro e;simp at e;subst e;exact hn (by simp[ndBk,blkOf_own h.ks,hg])
 ·intro e;simp at e;subst e;exact hn (by simp[ndBk,blkOf_own h.vs,hg])
 ·intro e;simp at e;subst e;exact hn (by simp[ndBk,blkOf_own h.cs,hg])
theorem own_ge {e:TypeId} {k:IntKind} {v:Value} {l:List Int} (h:w.ownsRow B e 1 v l.length (l.map (Value.int k))): ∀g∈blkOf v,B≤g∧g<w.heap.size:=fun g hg=>by
 rw[blkOf_own h,Option.mem_toList] at hg
 exact h.lt g hg
theorem blkOf_nodup (v:Value):(blkOf v).Nodup:=by
 unfold blkOf
 split<;>simp
theorem nodup_swap {A C D E:List Nat} {s:Nat} (h:(A++(C++D)).Nodup) (hE:E.Nodup) (hn: ∀g∈E,g∈C∨s≤g) (hA: ∀g∈A,g<s) (hD: ∀g∈D,g<s):(A++(E++D)).Nodup:=by
 rw[List.nodup_append,List.nodup_append] at h ⊢
 obtain⟨h1,⟨h2,h3,h4⟩,h5⟩:=h
 refine⟨h1,⟨hE,h3,fun a ha d hd e=> ?_⟩,fun a ha x hx e=> ?_⟩
 ·subst e
  rcases hn a ha with h|h
  ·exact h4 a h a hd rfl
  ·have:=hD a hd;omega
 ·subst e
  rw[List.mem_append] at hx
  rcases hx with hx|hx
  ·rcases hn a hx with h|h
   ·exact h5 a ha a (by simp[h]) rfl
   ·have:=hA a ha;omega
  ·exact h5 a ha a (by simp[hx]) rfl
theorem InSt.newK (h:InSt w0 w w1 p K M X b B kv vv cv lk lv lc f) (ho:w'.ownsRow B 28 1 v' l'.length (l'.map (Value.int .u64))) (t:Touch (blkOf kv) w1 w') (hn: ∀g∈blkOf v',g∈blkOf kv∨w1.heap.size≤g):InSt w0 w w' p K M X b B v' vv cv l' lv lc f:=by
 have hnd:=h.nd
 have hlt:=h.pg.lt
 have hd:(b::ndBk v' vv cv).Nodup:=nodup_swap (A:=[b]) (C:=blkOf kv) (s:=w1.heap.size) hnd (blkOf_nodup v') hn (fun g hg=>hlt g (by simp at hg;simp[hg])) (fun g hg=>hlt g (by simp at hg;rcases hg with hg|hg<;>simp[ndBk,hg]))
 have hoff: ∀g,(g=b∨g∈blkOf vv∨g∈blkOf cv)→g∉blkOf kv:=fun g hg hk=>by
  simp only[ndBk,List.nodup_cons,List.nodup_append,List.mem_append] at hnd
  rcases hg with rfl|hg|hg
  ·exact hnd.1 (.inl hk)
  ·exact hnd.2.2.2 g hk g (.inl hg) rfl
  ·exact hnd.2.2.2 g hk g (.inr hg) rfl
 refine⟨h.pg.turn t (fun x hx=>⟨by simp[ndBk,hx],Nat.le_trans h.hB (own_ge h.ks x hx).1⟩) (fun y hy=> ?_),rowIs_touch h.box t (hoff b (.inl rfl)),ho,ownsRow_touch h.vs t (fun g hg=>hoff g (.inr (.inl (by rw[blkOf_own h.vs];simp[hg])))),ownsRow_touch h.cs t (fun g hg=>hoff g (.inr (.inr (by rw[blkOf_own h.cs];simp[hg])))),hd,fun x hx=> ?_,h.hb,h.hB,h.sx.trans (SameX.of_touch t (fun x hx=>⟨h.pgX.lt x hx,fun hm=>(h.xx x hx).1 (by simp[ndBk,hm])⟩))⟩
 ·simp only[ndBk,List.mem_append,List.mem_cons] at hy ⊢
  rcases hy with (hy|hy|hy)|hy
  ·rcases hn y hy with h1|h1
   ·simp[h1]
   ·exact .inr ⟨h1,(own_ge ho y hy).2⟩
  ·simp[hy]
  ·simp[hy]
  ·rcases hy with hy|hy<;>simp[hy]
 ·refine⟨fun hm=> ?_,(h.xx x hx).2⟩
  simp only[ndBk,List.mem_append] at hm
  rcases hm with hm|hm
  ·rcases hn x hm with h1|h1
   ·exact(h.xx x hx).1 (by simp[ndBk,h1])
   ·have:=h.pgX.lt x hx;omega
  ·exact(h.xx x hx).1 (by simp only[ndBk,List.mem_append];exact .inr hm)
theorem InSt.newV (h:InSt w0 w w1 p K M X b B kv vv cv lk lv lc f) (ho:w'.ownsRow B 28 1 v' l'.length (l'.map (Value.int .u64))) (t:Touch (blkOf vv) w1 w') (hn: ∀g∈blkOf v',g∈blkOf vv∨w1.heap.size≤g):InSt w0 w w' p K M X b B kv v' cv lk l' lc f:=by
 have hnd:=h.nd
 have hlt:=h.pg.lt
 have hd:(b::ndBk kv v' cv).Nodup:=nodup_swap (A:=b::blkOf kv) (C:=blkOf vv) (s:=w1.heap.size) hnd (blkOf_nodup v') hn (fun g hg=>hlt g (by simp at hg;rcases hg with hg|hg<;>simp[ndBk,hg])) (fun g hg=>hlt g (by simp[ndBk,hg]))
 have hoff: ∀g,(g=b∨g∈blkOf kv∨g∈blkOf cv)→g∉blkOf vv:=fun g hg hk=>by
  simp only[ndBk,List.nodup_cons,List.nodup_append,List.mem_append] at hnd
  rcases hg with rfl|hg|hg
  ·exact hnd.1 (.inr (.inl hk))
  ·exact hnd.2.2.2 g hg g (.inl hk) rfl
  ·exact hnd.2.2.1.2.2 g hk g hg rfl
 refine⟨h.pg.turn t (fun x hx=>⟨by simp[ndBk,hx],Nat.le_trans h.hB (own_ge h.vs x hx).1⟩) (fun y hy=> ?_),rowIs_touch h.box t (hoff b (.inl rfl)),ownsRow_touch h.ks t (fun g hg=>hoff g (.inr (.inl (by rw[blkOf_own h.ks];simp[hg])))),ho,ownsRow_touch h.cs t (fun g hg=>hoff g (.inr (.inr (by rw[blkOf_own h.cs];simp[hg])))),hd,fun x hx=> ?_,h.hb,h.hB,h.sx.trans (SameX.of_touch t (fun x hx=>⟨h.pgX.lt x hx,fun hm=>(h.xx x hx).1 (by simp[ndBk,hm])⟩))⟩
 ·simp only[ndBk,List.mem_append,List.mem_cons] at hy ⊢
  rcases hy with (hy|hy|hy)|hy
  ·simp[hy]
  ·rcases hn y hy with h1|h1
   ·simp[h1]
   ·exact .inr ⟨h1,(own_ge ho y hy).2⟩
  ·simp[hy]
  ·rcases hy with hy|hy<;>simp[hy]
 ·refine⟨fun hm=> ?_,(h.xx x hx).2⟩
  simp only[ndBk,List.mem_append] at hm
  rcases hm with hm|hm|hm
  ·exact(h.xx x hx).1 (by simp[ndBk,hm])
  ·rcases hn x hm with h1|h1
   ·exact(h.xx x hx).1 (by simp[ndBk,h1])
   ·have:=h.pgX.lt x hx;omega
  ·exact(h.xx x hx).1 (by simp[ndBk,hm])
theorem InSt.newC (h:InSt w0 w w1 p K M X b B kv vv cv lk lv lc f) (ho:w'.ownsRow B 3 1 v' l'.length (l'.map (Value.int .i64))) (t:Touch (blkOf cv) w1 w') (hn: ∀g∈blkOf v',g∈blkOf cv∨w1.heap.size≤g):InSt w0 w w' p K M X b B kv vv v' lk lv l' f:=by
 have hnd:=h.nd
 have hlt:=h.pg.lt
 have hd:(b::ndBk kv vv v').Nodup:=by
  have:=nodup_swap (A:=b::(blkOf kv++blkOf vv)) (C:=blkOf cv) (D:=[]) (E:=blkOf v') (s:=w1.heap.size) (by simpa[ndBk,List.append_assoc] using hnd) (blkOf_nodup v') hn (fun g hg=>hlt g (by simp at hg;rcases hg with hg|hg|hg<;>simp[ndBk,hg])) (by simp)
  simpa[ndBk,List.append_assoc] using this
 have hoff: ∀g,(g=b∨g∈blkOf kv∨g∈blkOf vv)→g∉blkOf cv:=fun g hg hk=>by
  simp only[ndBk,List.nodup_cons,List.nodup_append,List.mem_append] at hnd
  rcases hg with rfl|hg|hg
  ·exact hnd.1 (.inr (.inr hk))
  ·exact hnd.2.2.2 g hg g (.inr hk) rfl
  ·exact hnd.2.2.1.2.2 g hg g hk rfl
 refine⟨h.pg.turn t (fun x hx=>⟨by simp[ndBk,hx],Nat.le_trans h.hB (own_ge h.cs x hx).1⟩) (fun y hy=> ?_),rowIs_touch h.box t (hoff b (.inl rfl)),ownsRow_touch h.ks t (fun g hg=>hoff g (.inr (.inl (by rw[blkOf_own h.ks];simp[hg])))),ownsRow_touch h.vs t (fun g hg=>hoff g (.inr (.inr (by rw[blkOf_own h.vs];simp[hg])))),ho,hd,fun x hx=> ?_,h.hb,h.hB,h.sx.trans (SameX.of_touch t (fun x hx=>⟨h.pgX.lt x hx,fun hm=>(h.xx x hx).1 (by simp[ndBk,hm])⟩))⟩
 ·simp only[ndBk,List.mem_append,List.mem_cons] at hy ⊢
  rcases hy with (hy|hy|hy)|hy
  ·simp[hy]
  ·simp[hy]
  ·rcases hn y hy with h1|h1
   ·simp[h1]
   ·exact .inr ⟨h1,(own_ge ho y hy).2⟩
  ·rcases hy with hy|hy<;>simp[hy]
 ·refine⟨fun hm=> ?_,(h.xx x hx).2⟩
  simp only[ndBk,List.mem_append] at hm
  rcases hm with hm|hm|hm
  ·exact(h.xx x hx).1 (by simp[ndBk,hm])
  ·exact(h.xx x hx).1 (by simp[ndBk,hm])
  ·rcases hn x hm with h1|h1
   ·exact(h.xx x hx).1 (by simp[ndBk,h1])
   ·have:=h.pgX.lt x hx;omega
theorem InSt.nodeI (h:InSt w0 w w1 p K M X b B kv vv cv lk lv lc f) (lf:Bool):NdI w1 kv vv cv ⟨lf,lk,lv,lc⟩:=⟨.own h.ks, .own h.vs, .own h.cs⟩
theorem InSt.setV (h:InSt w0 w w1 p K M X b B kv vv cv lk lv lc f) {g c i:Nat} (hv:vv= .slice (some ⟨g,0,none⟩) lv.length c) (hi:i<lv.length) (x:Int):InSt w0 w (w1.setCell ⟨g,i,none⟩ (.int .u64 x)) p K M X b B kv vv cv lk (lv.set i x) lc f:=by
 have ho:=h.vs
 subst hv
 have:=ownsRow_setCell ho hi (x:= .int .u64 x) rfl
 refine h.newV (l':=lv.set i x) (by rw[List.length_set,List.map_set];exact this) ((Touch.refl _ _).setCell (.inl (by simp[blkOf])) _) (fun g hg=> .inl hg)
theorem InSt.of_read (ho:NdO w1 B kv vv cv n) (hp:PgX w0 w1 p K M (ndBk kv vv cv++X)) (hB:w0.heap.size≤B) (hX: ∀x∈X,x<B) (hs:SameX X w w1) (hb:w1.heap.size≤b) (hr:w'.rowIs b 109 4 f) (t:Touch [b] w1 w'):InSt w0 w w' p K M X b B kv vv cv n.keys n.vals n.kids f:=by
 have hw:=hp.below.size
 have hlt:=hp.lt
 have hnb: ∀g,g<w1.heap.size→g∉ [b]:=fun g hg=>by simp;omega
 have hq:=ho.ge
 have ho':=ho.touch t (fun g hg=>hnb g (hlt g (by simp[hg])))
 refine⟨hp.move (t.below (Nat.le_refl _) (fun x hx=>by simp at hx;omega)) (fun y hy=> ?_),hr,ho'.ks,ho'.vs,ho'.cs,List.nodup_cons.2 ⟨fun hm=>by have:=hlt b (by simp[hm]);omega,ho.nd⟩,fun x hx=>⟨fun hm=>by have:=(hq x hm).1;have:=hX x hx;omega,fun e=>by have:=hlt x (by simp[hx]);omega⟩,by omega,hB,hs.trans (SameX.of_touch t (fun x hx=>⟨hlt x (by simp[hx]),hnb x (hlt x (by simp[hx]))⟩))⟩
 simp only[List.mem_append,List.mem_cons] at hy ⊢
 rcases hy with hy|rfl|hy
 ·simp[hy]
 ·exact .inr ⟨hb,World.rowIs.lt hr⟩
 ·simp[hy]
theorem InSt.go (h:InSt w0 w w1 p K M X b B kv vv cv lk lv lc f) (hp:PgX w0 w' p J M' (ndBk kv vv cv++(b::X))) (hs:SameX (ndBk kv vv cv++(b::X)) w1 w'):InSt w0 w w' p J M' X b B kv vv cv lk lv lc f:=by
 have hb: ∀ {v:Value} {e:TypeId} {m:Nat} {xs:List Value},w1.ownsRow B e 1 v m xs→(∀g∈blkOf v,g∈ndBk kv vv cv)→w'.ownsRow B e 1 v m xs:=fun {v e m xs} ho hg=>by
  refine⟨ho.1, ?_⟩
  rcases ho.2 with h0|⟨g,cap,cur,hv,hbb,hgg,h1,h2,h3,h4⟩
  ·exact .inl h0
  ·refine .inr ⟨g,cap,cur,hv,hbb, ?_,h1,h2,h3,h4⟩
   rw[hs.blk g (by
    have:=hg g (by rw[hv];simp[blkOf])
    simp[this])]
   exact hgg
 exact⟨hp,hs.row h.box (by simp),hb h.ks (fun g hg=>by simp[ndBk,hg]),hb h.vs (fun g hg=>by simp[ndBk,hg]),hb h.cs (fun g hg=>by simp[ndBk,hg]),h.nd,h.xx,h.hb,h.hB,h.sx.trans (hs.sub (fun y hy=>by simp[hy]))⟩
end
end Go.Proofs.YtjgkegkinnlcoaaGreatDoor
namespace Go.Proofs.YtjgkegkinnlcoaaGreatDoor
open Go.RowKit Go.Maps Go.Joins
theorem node0_new (w:World):(w.alloc (.cells #[.bool false, .slice none 0 0, .slice none 0 0, .slice none 0 0] 109)).rowIs w.heap.size 109 4 (ndF (.slice none 0 0) (.slice none 0 0) (.slice none 0 0) nd0):=ndF_new w _ _ _ nd0
end Go.Proofs.YtjgkegkinnlcoaaGreatDoor
