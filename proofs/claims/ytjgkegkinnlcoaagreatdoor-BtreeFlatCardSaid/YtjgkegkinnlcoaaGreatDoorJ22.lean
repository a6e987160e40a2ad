/- Lemmas on the way to the statement: BtJoin. -/
import Derived.Test.YtjgkegkinnlcoaaGreatDoorJ16
import Derived.Test.YtjgkegkinnlcoaaGreatDoorJ21
set_option linter.unusedSimpArgs false
set_option linter.unusedVariables false
namespace Go.Proofs.YtjgkegkinnlcoaaGreatDoor
open Go.RowKit Go.Maps Go.Joins
theorem res_node1 {fn:Func} {p:Tmp} {tmps:Array Value} {W:World} {g:Nat} {kv vv cv:Value} {n:ND} (h:fn.results= #[.cell p 109]) (hp:tmps.getD p undef= .pointer (some ⟨g,0,none⟩)) (hr:W.rowIs g 109 4 (ndF kv vv cv n)):
  (results fn tmps).run Tryz.prog W= .ok (ndV kv vv cv n) W:=by
 obtain⟨c,hc,hs,hi⟩:=hr
 have hcs:c= #[.bool n.leaf,kv,vv,cv]:=by
  apply Array.ext_getElem?
  intro i
  by_cases hlt:i<4
  ·rw[hi i hlt]
   rcases i with _|_|_|_|i<;>first|rfl|(exfalso;omega)
  ·rw[Array.getElem?_eq_none (by omega),Array.getElem?_eq_none (by simp;omega)]
 subst hcs
 exact results_cell_row h tmps W g _ _ _ _ hp hc Tryz.underlying109 rfl (by kernel_rfl)
theorem cells_two {w:World} {g:Nat} {t:TypeId} {v1 v2:Value} {l1 l2:List Int} (h:w.heap[g]? =some (.cells #[v1,v2] t (0,0))) {i:Nat} {x:SV} (hx:[(v1,l1),(v2,l2)][i]? =some x):w.cell? ⟨g,i,none⟩=some x.1:=by
 unfold World.cell?
 rw[h]
 rcases i with _|_|i
 ·cases hx;rfl
 ·cases hx;rfl
 ·cases hx
theorem cells_three {w:World} {g:Nat} {t:TypeId} {v1 v2 v3:Value} {l1 l2 l3:List Int} (h:w.heap[g]? =some (.cells #[v1,v2,v3] t (0,0))) {i:Nat} {x:SV} (hx:[(v1,l1),(v2,l2),(v3,l3)][i]? =some x):w.cell? ⟨g,i,none⟩=some x.1:=by
 unfold World.cell?
 rw[h]
 rcases i with _|_|_|i
 ·cases hx;rfl
 ·cases hx;rfl
 ·cases hx;rfl
 ·cases hx
theorem nodup_two {A B:List Nat} {S:Nat} (hA:A.Nodup) (hB:B.Nodup) (h1: ∀q∈A,q<S) (h2: ∀q∈B,S≤q):(A++B).Nodup:=
 List.nodup_append.2 ⟨hA,hB,fun a ha b hb e=>by have:=h1 a ha;have:=h2 b hb;omega⟩
set_option maxRecDepth 100000 in
set_option maxHeartbeats 8000000 in
theorem bjoin_any {w:World} {kv vv cv kv' vv' cv':Value} {a b:ND} (ha:NdI w kv vv cv a) (hb:NdI w kv' vv' cv' b) (ka:NdOk a) (kb:NdOk b) (he:a.leaf=b.leaf) (key:Int):
  Calls Tryz.prog 188 #[ndV kv vv cv a, .int .u64 key,ndV kv' vv' cv' b] w fun e w'=> ∃kj vj cj,e= .returned (ndV kj vj cj (joinN a key b))∧NdO w' w.heap.size kj vj cj (joinN a key b)∧Below w.heap.size w w':=by
 have hka:=ka
 have hkb:=kb
 clear ka kb
 obtain⟨ka,kac,rfl⟩:=ha.ks.form
 obtain⟨va,vac,rfl⟩:=ha.vs.form
 obtain⟨ca,cac,rfl⟩:=ha.cs.form
 obtain⟨kb,kbc,rfl⟩:=hb.ks.form
 obtain⟨vb,vbc,rfl⟩:=hb.vs.form
 obtain⟨cb,cbc,rfl⟩:=hb.cs.form
 have HA:=Lib.hid ha
 have HB0:=Lib.hid hb
 clear ha hb
 have h1:=hka.k1
 have h2:=hkb.k1
 have n1:a.keys≠ []:=fun e=>by rw[e] at h1;simp at h1
 have n2:b.keys≠ []:=fun e=>by rw[e] at h2;simp at h2
 unfold ndV
 cases hl:a.leaf
 ·have hlb:b.leaf=false:=by rw[←he];exact hl
  obtain⟨a1,a2,a3, -⟩:=hka.forks hl
  obtain⟨b1,b2,b3, -⟩:=hkb.forks hlb
  have HAN:=Lib.hid (And.intro n1 (show a.kids≠ [] from fun e=>by rw[e] at a2;simp at a2))
  have HBN:=Lib.hid (And.intro n2 (show b.kids≠ [] from fun e=>by rw[e] at b2;simp at b2))
  have HLN:=Lib.hid (show a.keys.length≤40∧b.keys.length≤40∧a.kids.length≤41∧b.kids.length≤41 by omega)
  obtain⟨KL,hKL⟩: ∃KL,KL=a.keys++key::b.keys:=⟨_,rfl⟩
  obtain⟨CL,hCL⟩: ∃CL,CL=a.kids++b.kids:=⟨_,rfl⟩
  have HJ:=Lib.hid (show joinN a key b=⟨false,KL,[],CL⟩ by rw[hKL,hCL];unfold joinN;rw[if_neg (by rw[hl];decide)])
  have HKL:=Lib.hid hKL
  have HCL:=Lib.hid hCL
  clear hKL hCL
  rw[hlb]
  obtain⟨W3,hW3⟩: ∃W3,W3=((w.alloc (.cells #[.bool false, .slice ka a.keys.length kac, .slice va a.vals.length vac, .slice ca a.kids.length cac] 109)).alloc (.cells #[.bool false, .slice kb b.keys.length kbc, .slice vb b.vals.length vbc, .slice cb b.kids.length cbc] 109)).alloc (.cells #[.bool false, .slice none 0 0, .slice none 0 0, .slice none 0 0] 109):=⟨_,rfl⟩
  have HW3:Hid (Below w.heap.size w W3):=Lib.hid (by rw[hW3];exact below_alloc (below_alloc (below_alloc (Below.refl _ _))))
  have HRA:Hid (W3.rowIs w.heap.size 109 4 (ndF (.slice ka a.keys.length kac) (.slice va a.vals.length vac) (.slice ca a.kids.length cac) a)):=Lib.hid (by
   have h:=ndF_new w (.slice ka a.keys.length kac) (.slice va a.vals.length vac) (.slice ca a.kids.length cac) a
   rw[hl] at h
   rw[hW3]
   exact rowIs_touch (rowIs_touch h (F:=[]) ((Touch.refl _ _).alloc _) (by simp)) (F:=[]) ((Touch.refl _ _).alloc _) (by simp))
  have HRBb:Hid (W3.rowIs (w.heap.size+1) 109 4 (ndF (.slice kb b.keys.length kbc) (.slice vb b.vals.length vbc) (.slice cb b.kids.length cbc) b)):=Lib.hid (by
   have h:=ndF_new (w.alloc (.cells #[.bool false, .slice ka a.keys.length kac, .slice va a.vals.length vac, .slice ca a.kids.length cac] 109)) (.slice kb b.keys.length kbc) (.slice vb b.vals.length vbc) (.slice cb b.kids.length cbc) b
   rw[World.size_alloc_eq,hlb] at h
   rw[hW3]
   exact rowIs_touch h (F:=[]) ((Touch.refl _ _).alloc _) (by simp))
  have HR3:Hid (W3.rowIs (w.heap.size+1+1) 109 4 (ndF (.slice none 0 0) (.slice none 0 0) (.slice none 0 0) nd0)):=Lib.hid (by
   have h:=node0_new ((w.alloc (.cells #[.bool false, .slice ka a.keys.length kac, .slice va a.vals.length vac, .slice ca a.kids.length cac] 109)).alloc (.cells #[.bool false, .slice kb b.keys.length kbc, .slice vb b.vals.length vbc, .slice cb b.kids.length cbc] 109))
   rw[World.size_alloc_eq,World.size_alloc_eq] at h
   rw[hW3]
   exact h)
  have HS3:=Lib.hid HW3.out.size
  have HW3E:=Lib.hid hW3
  clear hW3
  clear h1 h2 n1 n2 a1 a2 a3 b1 b2 b3 hka hkb he
  go_enter Tryz.func188,Tryz.ntmps188
  go_wp2_with fail
  rw[←HW3E.out]
  have hS:(fun w':World=>w'.cell? ⟨w.heap.size,1,none⟩=some (.slice ka a.keys.length kac)∧w'.cell? ⟨w.heap.size+1,1,none⟩=some (.slice kb b.keys.length kbc)∧w'.cell? ⟨w.heap.size,3,none⟩=some (.slice ca a.kids.length cac)∧w'.cell? ⟨w.heap.size+1,3,none⟩=some (.slice cb b.kids.length cbc)) W3:=
   ⟨World.rowIs.cell HRA.out (i:=1) (by decide),World.rowIs.cell HRBb.out (i:=1) (by decide),World.rowIs.cell HRA.out (i:=3) (by decide),World.rowIs.cell HRBb.out (i:=3) (by decide)⟩
  have HSB:=Lib.hid (fun(w':World) (t:Below W3.heap.size W3 w')=>(show(fun w':World=>w'.cell? ⟨w.heap.size,1,none⟩=some (.slice ka a.keys.length kac)∧w'.cell? ⟨w.heap.size+1,1,none⟩=some (.slice kb b.keys.length kbc)∧w'.cell? ⟨w.heap.size,3,none⟩=some (.slice ca a.kids.length cac)∧w'.cell? ⟨w.heap.size+1,3,none⟩=some (.slice cb b.kids.length cbc)) w' from
   ⟨(t.cell (p:=⟨_,_,none⟩) (World.rowIs.lt HRA.out)).trans hS.1,(t.cell (p:=⟨_,_,none⟩) (World.rowIs.lt HRBb.out)).trans hS.2.1,(t.cell (p:=⟨_,_,none⟩) (World.rowIs.lt HRA.out)).trans hS.2.2.1,(t.cell (p:=⟨_,_,none⟩) (World.rowIs.lt HRBb.out)).trans hS.2.2.2⟩))
  have HB:=Lib.hid ((Touch.refl [] W3).drew.below (Nat.le_refl W3.heap.size) (by simp))
  have HS0:=Lib.hid (HSB.out _ HB.out)
  clear hS
  refine wp_region_noPanic ?_
  refine wp_region_par3 15 15 (by kernel_rfl) (by kernel_rfl) (by simp) (by omega) (by kernel_rfl) (by kernel_rfl) (fun w':World=>w'.cell? ⟨w.heap.size,1,none⟩=some (.slice ka a.keys.length kac)∧w'.cell? ⟨w.heap.size+1,1,none⟩=some (.slice kb b.keys.length kbc)∧w'.cell? ⟨w.heap.size,3,none⟩=some (.slice ca a.kids.length cac)∧w'.cell? ⟨w.heap.size+1,3,none⟩=some (.slice cb b.kids.length cbc)) ?_
  refine par3_move (v:= ?_) 0 (by simp only[zga,zgb,zgc];rfl) (by kernel_rfl) (by rfl) ?_ (fun _ _ _ h=>h) ?_
  rotate_left
  ·(intro w9;go_simp;try with_reducible rfl)
  simp only[Act.put,zpa,zpb,zpc]
  refine par3_read (v:= ?_) 1 (by simp only[zga,zgb,zgc];rfl) (by kernel_rfl) (by rfl) HS0.out ?_ (fun _ _ _ h=>h) ?_
  rotate_left
  ·(intro w9 hSw;(try dsimp only at hSw);go_simp;try with_reducible rfl)
  simp only[Act.put,zpa,zpb,zpc]
  refine par3_move (v:= ?_) 2 (by simp only[zga,zgb,zgc];rfl) (by kernel_rfl) (by rfl) ?_ (fun _ _ _ h=>h) ?_
  rotate_left
  ·(intro w9;go_simp;try with_reducible rfl)
  simp only[Act.put,zpa,zpb,zpc]
  refine par3_move (v:= ?_) 4 (by simp only[zga,zgb,zgc];rfl) (by kernel_rfl) (by rfl) ?_ (fun _ _ _ h=>h) ?_
  rotate_left
  ·(intro w9;go_simp;try with_reducible rfl)
  simp only[Act.put,zpa,zpb,zpc]
  refine par3_read (v:= ?_) 5 (by simp only[zga,zgb,zgc];rfl) (by kernel_rfl) (by rfl) HS0.out ?_ (fun _ _ _ h=>h) ?_
  rotate_left
  ·(intro w9 hSw;(try dsimp only at hSw);go_simp;try with_reducible rfl)
  simp only[Act.put,zpa,zpb,zpc]
  refine par3_move (v:= ?_) 8 (by simp only[zga,zgb,zgc];rfl) (by kernel_rfl) (by rfl) ?_ (fun _ _ _ h=>h) ?_
  rotate_left
  ·(intro w9;go_simp;try with_reducible rfl)
  simp only[Act.put,zpa,zpb,zpc]
  refine par3_read (v:= ?_) 9 (by simp only[zga,zgb,zgc];rfl) (by kernel_rfl) (by rfl) HS0.out ?_ (fun _ _ _ h=>h) ?_
  rotate_left
  ·(intro w9 hSw;(try dsimp only at hSw);go_simp;try with_reducible rfl)
  simp only[Act.put,zpa,zpb,zpc]
  refine par3_move (v:= ?_) 10 (by simp only[zga,zgb,zgc];rfl) (by kernel_rfl) (by rfl) ?_ (fun _ _ _ h=>h) ?_
  rotate_left
  ·(intro w9;go_simp;try with_reducible rfl)
  simp only[Act.put,zpa,zpb,zpc]
  refine par3_read (v:= ?_) 11 (by simp only[zga,zgb,zgc];rfl) (by kernel_rfl) (by rfl) HS0.out ?_ (fun _ _ _ h=>h) ?_
  rotate_left
  ·(intro w9 hSw;(try dsimp only at hSw);go_simp;try with_reducible rfl)
  simp only[Act.put,zpa,zpb,zpc]
  refine par3_name (fun W4 hW4=> ?_)
  rw[←hW4] at HB
  clear hW4 HS0
  refine par3_two 3 12 (by simp only[zga,zgb,zgc];rfl) (by simp only[zga,zgb,zgc];rfl) (by kernel_rfl) (by rfl) (by rfl) ?_ ?_
  ·refine owp_val (v:= ?_) (w1:= ?_) ?_ ?_
   rotate_left 2
   ·(go_simp;constructor<;>rfl)
   refine⟨fun _ _=>HSB.out _ (HB.out.alloc HB.out.size _), ?_⟩
   simp only[Act.put,zpa,zpb,zpc]
   have HBn:=Lib.hid (HB.out.alloc HB.out.size (.cells #[.int .u64 key] 28))
   have V1:Hid ((W4.alloc (.cells #[.int .u64 key] 28)).heap[W4.heap.size]? =some (.cells #[.int .u64 key] 28 (0,0))):=Lib.hid (heap_alloc_new _ _)
   refine par3_name (fun W5 hW=> ?_)
   rw[←hW] at HBn V1
   have HB:=HBn
   clear hW HBn
   refine par3_two 6 12 (by simp only[zga,zgb,zgc];rfl) (by simp only[zga,zgb,zgc];rfl) (by kernel_rfl) (by rfl) (by rfl) ?_ ?_
   ·refine owp_val (v:= ?_) (w1:= ?_) ?_ ?_
    rotate_left 2
    ·(go_simp;constructor<;>rfl)
    refine⟨fun _ _=>HSB.out _ (HB.out.alloc HB.out.size _), ?_⟩
    simp only[Act.put,zpa,zpb,zpc]
    have HBn:=Lib.hid (HB.out.alloc HB.out.size (.cells #[.slice ka a.keys.length kac, .slice (some ⟨W4.heap.size,0,none⟩) 1 1, .slice kb b.keys.length kbc] 57))
    have V2:Hid ((W5.alloc (.cells #[.slice ka a.keys.length kac, .slice (some ⟨W4.heap.size,0,none⟩) 1 1, .slice kb b.keys.length kbc] 57)).heap[W5.heap.size]? =some (.cells #[.slice ka a.keys.length kac, .slice (some ⟨W4.heap.size,0,none⟩) 1 1, .slice kb b.keys.length kbc] 57 (0,0))):=Lib.hid (heap_alloc_new _ _)
    have V1:=Lib.hid (((below_alloc (o:=(.cells #[.slice ka a.keys.length kac, .slice (some ⟨W4.heap.size,0,none⟩) 1 1, .slice kb b.keys.length kbc] 57)) (Below.refl W5.heap.size W5)).block _ (Array.getElem?_eq_some_iff.1 V1.out).1).trans V1.out)
    refine par3_name (fun W6 hW=> ?_)
    rw[←hW] at HBn V1 V2
    have HB:=HBn
    clear hW HBn
    refine par3_two 7 12 (by simp only[zga,zgb,zgc];rfl) (by simp only[zga,zgb,zgc];rfl) (by kernel_rfl) (by rfl) (by rfl) ?_ ?_
    ·refine owp_call (by go_simp;constructor<;>rfl) ?_
     refine(catU_any (vb:=W5.heap.size) (w:=W6) [(.slice ka a.keys.length kac,a.keys),(.slice (some ⟨W4.heap.size,0,none⟩) 1 1,[key]),(.slice kb b.keys.length kbc,b.keys)] rfl (fun i x hx=>cells_three V2.out hx) (fun x hx=>by simp only[List.mem_cons,List.not_mem_nil,or_false] at hx;rcases hx with rfl|rfl|rfl;exact⟨(HA.out.below (HW3.out.trans (HB.out.mono HS3.out))).ks,HAN.out.1⟩;exact⟨IsI.cells (l:=[key]) V1.out rfl (by simp) (by simp[maxLen]),by simp⟩;exact⟨(HB0.out.below (HW3.out.trans (HB.out.mono HS3.out))).ks,HBN.out.1⟩) (by simp) (by simp) (by have:=HLN.out;simp[catL];omega)).mono ?_
     rintro e W7 ⟨vOK,rfl,ho,hb⟩
     rw[show catL [(.slice ka a.keys.length kac,a.keys),(.slice (some ⟨W4.heap.size,0,none⟩) 1 1,[key]),(.slice kb b.keys.length kbc,b.keys)]=KL by rw[HKL.out];simp[catL]] at ho
     obtain⟨aOK,cOK,hf⟩:=(IsI.own ho).form
     subst hf
     have hon:=own_lower ho HB.out.size
     have HB:=Lib.hid (HB.out.trans (hb.mono HB.out.size))
     have V1:=Lib.hid (((hb).block _ (Array.getElem?_eq_some_iff.1 V1.out).1).trans V1.out)
     have V2:=Lib.hid (((hb).block _ (Array.getElem?_eq_some_iff.1 V2.out).1).trans V2.out)
     have OK:=Lib.hid hon
     obtain⟨S,hS⟩: ∃S,S=W7.heap.size:=⟨_,rfl⟩
     have OKL:=Lib.hid (fun q (hq:(Value.slice aOK KL.length cOK).ownBlock=some q)=>(show q<S by rw[hS];exact(ho.lt q hq).2))
     have HKW:=Lib.hid (show S≤W7.heap.size by rw[hS];exact Nat.le_refl _)
     clear hS
     refine⟨_,rfl,fun _ _=>HSB.out _ HB.out, ?_⟩
     clear ho hb hon
     simp only[Act.put,zpa,zpb,zpc]
     refine par3_one 12 (by simp only[zga,zgb,zgc];rfl) (by kernel_rfl) (by rfl) ?_
     refine owp_val (v:= ?_) (w1:= ?_) ?_ ?_
     rotate_left 2
     ·(go_simp;constructor<;>rfl)
     refine⟨fun _ _=>HSB.out _ (HB.out.alloc HB.out.size _), ?_⟩
     simp only[Act.put,zpa,zpb,zpc]
     have HBn:=Lib.hid (HB.out.alloc HB.out.size (.cells #[.slice ca a.kids.length cac, .slice cb b.kids.length cbc] 67))
     have V3:Hid ((W7.alloc (.cells #[.slice ca a.kids.length cac, .slice cb b.kids.length cbc] 67)).heap[W7.heap.size]? =some (.cells #[.slice ca a.kids.length cac, .slice cb b.kids.length cbc] 67 (0,0))):=Lib.hid (heap_alloc_new _ _)
     have V1:=Lib.hid (((below_alloc (o:=(.cells #[.slice ca a.kids.length cac, .slice cb b.kids.length cbc] 67)) (Below.refl W7.heap.size W7)).block _ (Array.getElem?_eq_some_iff.1 V1.out).1).trans V1.out)
     have V2:=Lib.hid (((below_alloc (o:=(.cells #[.slice ca a.kids.length cac, .slice cb b.kids.length cbc] 67)) (Below.refl W7.heap.size W7)).block _ (Array.getElem?_eq_some_iff.1 V2.out).1).trans V2.out)
     have HKW:=Lib.hid (Nat.le_trans HKW.out (below_alloc (o:=(.cells #[.slice ca a.kids.length cac, .slice cb b.kids.length cbc] 67)) (Below.refl W7.heap.size W7)).size)
     have OK:=Lib.hid (ownsRow_touch OK.out (F:=[]) (Touch.of_below (below_alloc (o:=(.cells #[.slice ca a.kids.length cac, .slice cb b.kids.length cbc] 67)) (Below.refl W7.heap.size W7))) (by simp))
     refine par3_name (fun W8 hW=> ?_)
     rw[←hW] at HBn V1 V2 HKW OK V3
     have HB:=HBn
     clear hW HBn
     refine par3_one 13 (by simp only[zga,zgb,zgc];rfl) (by kernel_rfl) (by rfl) ?_
     refine owp_call (by go_simp;constructor<;>rfl) ?_
     refine(catI_any (vb:=W7.heap.size) (w:=W8) [(.slice ca a.kids.length cac,a.kids),(.slice cb b.kids.length cbc,b.kids)] rfl (fun i x hx=>cells_two V3.out hx) (fun x hx=>by simp only[List.mem_cons,List.not_mem_nil,or_false] at hx;rcases hx with rfl|rfl;exact⟨(HA.out.below (HW3.out.trans (HB.out.mono HS3.out))).cs,HAN.out.2⟩;exact⟨(HB0.out.below (HW3.out.trans (HB.out.mono HS3.out))).cs,HBN.out.2⟩) (by simp) (by simp) (by have:=HLN.out;simp[catL];omega)).mono ?_
     rintro e W9 ⟨vOC,rfl,ho,hb⟩
     rw[show catL [(.slice ca a.kids.length cac,a.kids),(.slice cb b.kids.length cbc,b.kids)]=CL by rw[HCL.out];simp[catL]] at ho
     obtain⟨aOC,cOC,hf⟩:=(IsI.own ho).form
     subst hf
     have OCL:=Lib.hid (fun q (hq:(Value.slice aOC CL.length cOC).ownBlock=some q)=>Nat.le_trans HKW.out (ho.lt q hq).1)
     have hon:=own_lower ho HB.out.size
     have HB:=Lib.hid (HB.out.trans (hb.mono HB.out.size))
     have V1:=Lib.hid (((hb).block _ (Array.getElem?_eq_some_iff.1 V1.out).1).trans V1.out)
     have V2:=Lib.hid (((hb).block _ (Array.getElem?_eq_some_iff.1 V2.out).1).trans V2.out)
     have HKW:=Lib.hid (Nat.le_trans HKW.out (hb).size)
     have OK:=Lib.hid (ownsRow_touch OK.out (F:=[]) (Touch.of_below (hb)) (by simp))
     have V3:=Lib.hid (((hb).block _ (Array.getElem?_eq_some_iff.1 V3.out).1).trans V3.out)
     have OC:=Lib.hid hon
     refine⟨_,rfl,fun _ _=>HSB.out _ HB.out, ?_⟩
     clear ho hb hon
     simp only[Act.put,zpa,zpb,zpc]
     refine par3_move (v:= ?_) 14 (by simp only[zga,zgb,zgc];rfl) (by kernel_rfl) (by rfl) ?_ (fun _ _ _ h=>h) ?_
     rotate_left
     ·(intro w9;go_simp;try with_reducible rfl)
     simp only[Act.put,zpa,zpb,zpc]
     refine par3_tail _ (by simp only[List.drop_succ_cons,List.drop_zero];rfl) (by kernel_rfl) ?_
     skip
     have HRB:=Lib.hid (rowIs_touch HR3.out (F:=[]) (Touch.of_below HB.out) (by simp))
     go_wp2_with (refine wpList_store_node rfl (.tmp 6) (.tmp 36) rfl (w.heap.size+1+1) false (.slice aOK KL.length cOK) (.slice none 0 0) (.slice aOC CL.length cOC) (⟨false,KL,[],CL⟩:ND) rfl rfl rfl HRB.out (by simp[Value.oneCell']) ?_;intro w9 hr9 t9;have HR9:=Lib.hid hr9;have HT9:=Lib.hid t9;clear hr9 t9)
     refine NoPanic.normal ?_
     go_wp2_with fail
     refine bodyPost_ret_by (res_node1 Tryz.results188 rfl HR9.out) rfl ?_
     rw[HJ.out]
     have hoff: ∀q,W3.heap.size≤q→q∉ [w.heap.size+1+1]:=fun q hq=>by have:=World.rowIs.lt HR3.out;simp;omega
     refine⟨_,_,_,rfl,⟨own_lower (ownsRow_touch OK.out HT9.out (fun q hq=>hoff q (OK.out.lt q hq).1)) HS3.out,World.ownsRow_nil _ _ _ _,own_lower (ownsRow_touch OC.out HT9.out (fun q hq=>hoff q (OC.out.lt q hq).1)) HS3.out, ?_⟩, ?_⟩
     ·refine nodup_two (S:=S) (blkOf_nodup _) ?_ (fun q hq=>OKL.out q (by rw[blkOf_own OK.out] at hq;exact Option.mem_toList.1 hq)) (fun q hq=> ?_)
      ·simpa[blkOf] using blkOf_nodup (Value.slice aOC CL.length cOC)
      ·refine OCL.out q ?_
       have hq:q∈blkOf (Value.slice aOC CL.length cOC):=by simpa[blkOf] using hq
       rw[blkOf_own OC.out] at hq
       exact Option.mem_toList.1 hq
     ·exact(HW3.out.trans (HB.out.mono HS3.out)).trans (HT9.out.below (Nat.le_trans HS3.out HB.out.size) (fun x hx=>by simp at hx;omega))
    ·refine owp_val (v:= ?_) (w1:= ?_) ?_ ?_
     rotate_left 2
     ·(go_simp;constructor<;>rfl)
     refine⟨fun _ _=>HSB.out _ (HB.out.alloc HB.out.size _), ?_⟩
     simp only[Act.put,zpa,zpb,zpc]
     have HBn:=Lib.hid (HB.out.alloc HB.out.size (.cells #[.slice ca a.kids.length cac, .slice cb b.kids.length cbc] 67))
     have V3:Hid ((W6.alloc (.cells #[.slice ca a.kids.length cac, .slice cb b.kids.length cbc] 67)).heap[W6.heap.size]? =some (.cells #[.slice ca a.kids.length cac, .slice cb b.kids.length cbc] 67 (0,0))):=Lib.hid (heap_alloc_new _ _)
     have V1:=Lib.hid (((below_alloc (o:=(.cells #[.slice ca a.kids.length cac, .slice cb b.kids.length cbc] 67)) (Below.refl W6.heap.size W6)).block _ (Array.getElem?_eq_some_iff.1 V1.out).1).trans V1.out)
     have V2:=Lib.hid (((below_alloc (o:=(.cells #[.slice ca a.kids.length cac, .slice cb b.kids.length cbc] 67)) (Below.refl W6.heap.size W6)).block _ (Array.getElem?_eq_some_iff.1 V2.out).1).trans V2.out)
     refine par3_name (fun W7 hW=> ?_)
     rw[←hW] at HBn V1 V2 V3
     have HB:=HBn
     clear hW HBn
     refine par3_one 7 (by simp only[zga,zgb,zgc];rfl) (by kernel_rfl) (by rfl) ?_
     refine owp_call (by go_simp;constructor<;>rfl) ?_
     refine(catU_any (vb:=W5.heap.size) (w:=W7) [(.slice ka a.keys.length kac,a.keys),(.slice (some ⟨W4.heap.size,0,none⟩) 1 1,[key]),(.slice kb b.keys.length kbc,b.keys)] rfl (fun i x hx=>cells_three V2.out hx) (fun x hx=>by simp only[List.mem_cons,List.not_mem_nil,or_false] at hx;rcases hx with rfl|rfl|rfl;exact⟨(HA.out.below (HW3.out.trans (HB.out.mono HS3.out))).ks,HAN.out.1⟩;exact⟨IsI.cells (l:=[key]) V1.out rfl (by simp) (by simp[maxLen]),by simp⟩;exact⟨(HB0.out.below (HW3.out.trans (HB.out.mono HS3.out))).ks,HBN.out.1⟩) (by simp) (by simp) (by have:=HLN.out;simp[catL];omega)).mono ?_
     rintro e W8 ⟨vOK,rfl,ho,hb⟩
     rw[show catL [(.slice ka a.keys.length kac,a.keys),(.slice (some ⟨W4.heap.size,0,none⟩) 1 1,[key]),(.slice kb b.keys.length kbc,b.keys)]=KL by rw[HKL.out];simp[catL]] at ho
     obtain⟨aOK,cOK,hf⟩:=(IsI.own ho).form
     subst hf
     have hon:=own_lower ho HB.out.size
     have HB:=Lib.hid (HB.out.trans (hb.mono HB.out.size))
     have V1:=Lib.hid (((hb).block _ (Array.getElem?_eq_some_iff.1 V1.out).1).trans V1.out)
     have V2:=Lib.hid (((hb).block _ (Array.getElem?_eq_some_iff.1 V2.out).1).trans V2.out)
     have V3:=Lib.hid (((hb).block _ (Array.getElem?_eq_some_iff.1 V3.out).1).trans V3.out)
     have OK:=Lib.hid hon
     obtain⟨S,hS⟩: ∃S,S=W8.heap.size:=⟨_,rfl⟩
     have OKL:=Lib.hid (fun q (hq:(Value.slice aOK KL.length cOK).ownBlock=some q)=>(show q<S by rw[hS];exact(ho.lt q hq).2))
     have HKW:=Lib.hid (show S≤W8.heap.size by rw[hS];exact Nat.le_refl _)
     clear hS
     refine⟨_,rfl,fun _ _=>HSB.out _ HB.out, ?_⟩
     clear ho hb hon
     simp only[Act.put,zpa,zpb,zpc]
     refine par3_one 13 (by simp only[zga,zgb,zgc];rfl) (by kernel_rfl) (by rfl) ?_
     refine owp_call (by go_simp;constructor<;>rfl) ?_
     refine(catI_any (vb:=W6.heap.size) (w:=W8) [(.slice ca a.kids.length cac,a.kids),(.slice cb b.kids.length cbc,b.kids)] rfl (fun i x hx=>cells_two V3.out hx) (fun x hx=>by simp only[List.mem_cons,List.not_mem_nil,or_false] at hx;rcases hx with rfl|rfl;exact⟨(HA.out.below (HW3.out.trans (HB.out.mono HS3.out))).cs,HAN.out.2⟩;exact⟨(HB0.out.below (HW3.out.trans (HB.out.mono HS3.out))).cs,HBN.out.2⟩) (by simp) (by simp) (by have:=HLN.out;simp[catL];omega)).mono ?_
     rintro e W9 ⟨vOC,rfl,ho,hb⟩
     rw[show catL [(.slice ca a.kids.length cac,a.kids),(.slice cb b.kids.length cbc,b.kids)]=CL by rw[HCL.out];simp[catL]] at ho
     obtain⟨aOC,cOC,hf⟩:=(IsI.own ho).form
     subst hf
     have OCL:=Lib.hid (fun q (hq:(Value.slice aOC CL.length cOC).ownBlock=some q)=>Nat.le_trans HKW.out (ho.lt q hq).1)
     have hon:=own_lower ho HB.out.size
     have HB:=Lib.hid (HB.out.trans (hb.mono HB.out.size))
     have V1:=Lib.hid (((hb).block _ (Array.getElem?_eq_some_iff.1 V1.out).1).trans V1.out)
     have V2:=Lib.hid (((hb).block _ (Array.getElem?_eq_some_iff.1 V2.out).1).trans V2.out)
     have V3:=Lib.hid (((hb).block _ (Array.getElem?_eq_some_iff.1 V3.out).1).trans V3.out)
     have HKW:=Lib.hid (Nat.le_trans HKW.out (hb).size)
     have OK:=Lib.hid (ownsRow_touch OK.out (F:=[]) (Touch.of_below (hb)) (by simp))
     have OC:=Lib.hid hon
     refine⟨_,rfl,fun _ _=>HSB.out _ HB.out, ?_⟩
     clear ho hb hon
     simp only[Act.put,zpa,zpb,zpc]
     refine par3_move (v:= ?_) 14 (by simp only[zga,zgb,zgc];rfl) (by kernel_rfl) (by rfl) ?_ (fun _ _ _ h=>h) ?_
     rotate_left
     ·(intro w9;go_simp;try with_reducible rfl)
     simp only[Act.put,zpa,zpb,zpc]
     refine par3_tail _ (by simp only[List.drop_succ_cons,List.drop_zero];rfl) (by kernel_rfl) ?_
     skip
     have HRB:=Lib.hid (rowIs_touch HR3.out (F:=[]) (Touch.of_below HB.out) (by simp))
     go_wp2_with (refine wpList_store_node rfl (.tmp 6) (.tmp 36) rfl (w.heap.size+1+1) false (.slice aOK KL.length cOK) (.slice none 0 0) (.slice aOC CL.length cOC) (⟨false,KL,[],CL⟩:ND) rfl rfl rfl HRB.out (by simp[Value.oneCell']) ?_;intro w9 hr9 t9;have HR9:=Lib.hid hr9;have HT9:=Lib.hid t9;clear hr9 t9)
     refine NoPanic.normal ?_
     go_wp2_with fail
     refine bodyPost_ret_by (res_node1 Tryz.results188 rfl HR9.out) rfl ?_
     rw[HJ.out]
     have hoff: ∀q,W3.heap.size≤q→q∉ [w.heap.size+1+1]:=fun q hq=>by have:=World.rowIs.lt HR3.out;simp;omega
     refine⟨_,_,_,rfl,⟨own_lower (ownsRow_touch OK.out HT9.out (fun q hq=>hoff q (OK.out.lt q hq).1)) HS3.out,World.ownsRow_nil _ _ _ _,own_lower (ownsRow_touch OC.out HT9.out (fun q hq=>hoff q (OC.out.lt q hq).1)) HS3.out, ?_⟩, ?_⟩
     ·refine nodup_two (S:=S) (blkOf_nodup _) ?_ (fun q hq=>OKL.out q (by rw[blkOf_own OK.out] at hq;exact Option.mem_toList.1 hq)) (fun q hq=> ?_)
      ·simpa[blkOf] using blkOf_nodup (Value.slice aOC CL.length cOC)
      ·refine OCL.out q ?_
       have hq:q∈blkOf (Value.slice aOC CL.length cOC):=by simpa[blkOf] using hq
       rw[blkOf_own OC.out] at hq
       exact Option.mem_toList.1 hq
     ·exact(HW3.out.trans (HB.out.mono HS3.out)).trans (HT9.out.below (Nat.le_trans HS3.out HB.out.size) (fun x hx=>by simp at hx;omega))
   ·refine owp_val (v:= ?_) (w1:= ?_) ?_ ?_
    rotate_left 2
    ·(go_simp;constructor<;>rfl)
    refine⟨fun _ _=>HSB.out _ (HB.out.alloc HB.out.size _), ?_⟩
    simp only[Act.put,zpa,zpb,zpc]
    have HBn:=Lib.hid (HB.out.alloc HB.out.size (.cells #[.slice ca a.kids.length cac, .slice cb b.kids.length cbc] 67))
    have V3:Hid ((W5.alloc (.cells #[.slice ca a.kids.length cac, .slice cb b.kids.length cbc] 67)).heap[W5.heap.size]? =some (.cells #[.slice ca a.kids.length cac, .slice cb b.kids.length cbc] 67 (0,0))):=Lib.hid (heap_alloc_new _ _)
    have V1:=Lib.hid (((below_alloc (o:=(.cells #[.slice ca a.kids.length cac, .slice cb b.kids.length cbc] 67)) (Below.refl W5.heap.size W5)).block _ (Array.getElem?_eq_some_iff.1 V1.out).1).trans V1.out)
    refine par3_name (fun W6 hW=> ?_)
    rw[←hW] at HBn V1 V3
    have HB:=HBn
    clear hW HBn
    refine par3_one 6 (by simp only[zga,zgb,zgc];rfl) (by kernel_rfl) (by rfl) ?_
    refine owp_val (v:= ?_) (w1:= ?_) ?_ ?_
    rotate_left 2
    ·(go_simp;constructor<;>rfl)
    refine⟨fun _ _=>HSB.out _ (HB.out.alloc HB.out.size _), ?_⟩
    simp only[Act.put,zpa,zpb,zpc]
    have HBn:=Lib.hid (HB.out.alloc HB.out.size (.cells #[.slice ka a.keys.length kac, .slice (some ⟨W4.heap.size,0,none⟩) 1 1, .slice kb b.keys.length kbc] 57))
    have V2:Hid ((W6.alloc (.cells #[.slice ka a.keys.length kac, .slice (some ⟨W4.heap.size,0,none⟩) 1 1, .slice kb b.keys.length kbc] 57)).heap[W6.heap.size]? =some (.cells #[.slice ka a.keys.length kac, .slice (some ⟨W4.heap.size,0,none⟩) 1 1, .slice kb b.keys.length kbc] 57 (0,0))):=Lib.hid (heap_alloc_new _ _)
    have V1:=Lib.hid (((below_alloc (o:=(.cells #[.slice ka a.keys.length kac, .slice (some ⟨W4.heap.size,0,none⟩) 1 1, .slice kb b.keys.length kbc] 57)) (Below.refl W6.heap.size W6)).block _ (Array.getElem?_eq_some_iff.1 V1.out).1).trans V1.out)
    have V3:=Lib.hid (((below_alloc (o:=(.cells #[.slice ka a.keys.length kac, .slice (some ⟨W4.heap.size,0,none⟩) 1 1, .slice kb b.keys.length kbc] 57)) (Below.refl W6.heap.size W6)).block _ (Array.getElem?_eq_some_iff.1 V3.out).1).trans V3.out)
    refine par3_name (fun W7 hW=> ?_)
    rw[←hW] at HBn V1 V3 V2
    have HB:=HBn
    clear hW HBn
    refine par3_one 7 (by simp only[zga,zgb,zgc];rfl) (by kernel_rfl) (by rfl) ?_
    refine owp_call (by go_simp;constructor<;>rfl) ?_
    refine(catU_any (vb:=W6.heap.size) (w:=W7) [(.slice ka a.keys.length kac,a.keys),(.slice (some ⟨W4.heap.size,0,none⟩) 1 1,[key]),(.slice kb b.keys.length kbc,b.keys)] rfl (fun i x hx=>cells_three V2.out hx) (fun x hx=>by simp only[List.mem_cons,List.not_mem_nil,or_false] at hx;rcases hx with rfl|rfl|rfl;exact⟨(HA.out.below (HW3.out.trans (HB.out.mono HS3.out))).ks,HAN.out.1⟩;exact⟨IsI.cells (l:=[key]) V1.out rfl (by simp) (by simp[maxLen]),by simp⟩;exact⟨(HB0.out.below (HW3.out.trans (HB.out.mono HS3.out))).ks,HBN.out.1⟩) (by simp) (by simp) (by have:=HLN.out;simp[catL];omega)).mono ?_
    rintro e W8 ⟨vOK,rfl,ho,hb⟩
    rw[show catL [(.slice ka a.keys.length kac,a.keys),(.slice (some ⟨W4.heap.size,0,none⟩) 1 1,[key]),(.slice kb b.keys.length kbc,b.keys)]=KL by rw[HKL.out];simp[catL]] at ho
    obtain⟨aOK,cOK,hf⟩:=(IsI.own ho).form
    subst hf
    have hon:=own_lower ho HB.out.size
    have HB:=Lib.hid (HB.out.trans (hb.mono HB.out.size))
    have V1:=Lib.hid (((hb).block _ (Array.getElem?_eq_some_iff.1 V1.out).1).trans V1.out)
    have V3:=Lib.hid (((hb).block _ (Array.getElem?_eq_some_iff.1 V3.out).1).trans V3.out)
    have V2:=Lib.hid (((hb).block _ (Array.getElem?_eq_some_iff.1 V2.out).1).trans V2.out)
    have OK:=Lib.hid hon
    obtain⟨S,hS⟩: ∃S,S=W8.heap.size:=⟨_,rfl⟩
    have OKL:=Lib.hid (fun q (hq:(Value.slice aOK KL.length cOK).ownBlock=some q)=>(show q<S by rw[hS];exact(ho.lt q hq).2))
    have HKW:=Lib.hid (show S≤W8.heap.size by rw[hS];exact Nat.le_refl _)
    clear hS
    refine⟨_,rfl,fun _ _=>HSB.out _ HB.out, ?_⟩
    clear ho hb hon
    simp only[Act.put,zpa,zpb,zpc]
    refine par3_one 13 (by simp only[zga,zgb,zgc];rfl) (by kernel_rfl) (by rfl) ?_
    refine owp_call (by go_simp;constructor<;>rfl) ?_
    refine(catI_any (vb:=W5.heap.size) (w:=W8) [(.slice ca a.kids.length cac,a.kids),(.slice cb b.kids.length cbc,b.kids)] rfl (fun i x hx=>cells_two V3.out hx) (fun x hx=>by simp only[List.mem_cons,List.not_mem_nil,or_false] at hx;rcases hx with rfl|rfl;exact⟨(HA.out.below (HW3.out.trans (HB.out.mono HS3.out))).cs,HAN.out.2⟩;exact⟨(HB0.out.below (HW3.out.trans (HB.out.mono HS3.out))).cs,HBN.out.2⟩) (by simp) (by simp) (by have:=HLN.out;simp[catL];omega)).mono ?_
    rintro e W9 ⟨vOC,rfl,ho,hb⟩
    rw[show catL [(.slice ca a.kids.length cac,a.kids),(.slice cb b.kids.length cbc,b.kids)]=CL by rw[HCL.out];simp[catL]] at ho
    obtain⟨aOC,cOC,hf⟩:=(IsI.own ho).form
    subst hf
    have OCL:=Lib.hid (fun q (hq:(Value.slice aOC CL.length cOC).ownBlock=some q)=>Nat.le_trans HKW.out (ho.lt q hq).1)
    have hon:=own_lower ho HB.out.size
    have HB:=Lib.hid (HB.out.trans (hb.mono HB.out.size))
    have V1:=Lib.hid (((hb).block _ (Array.getElem?_eq_some_iff.1 V1.out).1).trans V1.out)
    have V3:=Lib.hid (((hb).block _ (Array.getElem?_eq_some_iff.1 V3.out).1).trans V3.out)
    have V2:=Lib.hid (((hb).block _ (Array.getElem?_eq_some_iff.1 V2.out).1).trans V2.out)
    have HKW:=Lib.hid (Nat.le_trans HKW.out (hb).size)
    have OK:=Lib.hid (ownsRow_touch OK.out (F:=[]) (Touch.of_below (hb)) (by simp))
    have OC:=Lib.hid hon
    refine⟨_,rfl,fun _ _=>HSB.out _ HB.out, ?_⟩
    clear ho hb hon
    simp only[Act.put,zpa,zpb,zpc]
    refine par3_move (v:= ?_) 14 (by simp only[zga,zgb,zgc];rfl) (by kernel_rfl) (by rfl) ?_ (fun _ _ _ h=>h) ?_
    rotate_left
    ·(intro w9;go_simp;try with_reducible rfl)
    simp only[Act.put,zpa,zpb,zpc]
    refine par3_tail _ (by simp only[List.drop_succ_cons,List.drop_zero];rfl) (by kernel_rfl) ?_
    skip
    have HRB:=Lib.hid (rowIs_touch HR3.out (F:=[]) (Touch.of_below HB.out) (by simp))
    go_wp2_with (refine wpList_store_node rfl (.tmp 6) (.tmp 36) rfl (w.heap.size+1+1) false (.slice aOK KL.length cOK) (.slice none 0 0) (.slice aOC CL.length cOC) (⟨false,KL,[],CL⟩:ND) rfl rfl rfl HRB.out (by simp[Value.oneCell']) ?_;intro w9 hr9 t9;have HR9:=Lib.hid hr9;have HT9:=Lib.hid t9;clear hr9 t9)
    refine NoPanic.normal ?_
    go_wp2_with fail
    refine bodyPost_ret_by (res_node1 Tryz.results188 rfl HR9.out) rfl ?_
    rw[HJ.out]
    have hoff: ∀q,W3.heap.size≤q→q∉ [w.heap.size+1+1]:=fun q hq=>by have:=World.rowIs.lt HR3.out;simp;omega
    refine⟨_,_,_,rfl,⟨own_lower (ownsRow_touch OK.out HT9.out (fun q hq=>hoff q (OK.out.lt q hq).1)) HS3.out,World.ownsRow_nil _ _ _ _,own_lower (ownsRow_touch OC.out HT9.out (fun q hq=>hoff q (OC.out.lt q hq).1)) HS3.out, ?_⟩, ?_⟩
    ·refine nodup_two (S:=S) (blkOf_nodup _) ?_ (fun q hq=>OKL.out q (by rw[blkOf_own OK.out] at hq;exact Option.mem_toList.1 hq)) (fun q hq=> ?_)
     ·simpa[blkOf] using blkOf_nodup (Value.slice aOC CL.length cOC)
     ·refine OCL.out q ?_
      have hq:q∈blkOf (Value.slice aOC CL.length cOC):=by simpa[blkOf] using hq
      rw[blkOf_own OC.out] at hq
      exact Option.mem_toList.1 hq
    ·exact(HW3.out.trans (HB.out.mono HS3.out)).trans (HT9.out.below (Nat.le_trans HS3.out HB.out.size) (fun x hx=>by simp at hx;omega))
  ·refine owp_val (v:= ?_) (w1:= ?_) ?_ ?_
   rotate_left 2
   ·(go_simp;constructor<;>rfl)
   refine⟨fun _ _=>HSB.out _ (HB.out.alloc HB.out.size _), ?_⟩
   simp only[Act.put,zpa,zpb,zpc]
   have HBn:=Lib.hid (HB.out.alloc HB.out.size (.cells #[.slice ca a.kids.length cac, .slice cb b.kids.length cbc] 67))
   have V3:Hid ((W4.alloc (.cells #[.slice ca a.kids.length cac, .slice cb b.kids.length cbc] 67)).heap[W4.heap.size]? =some (.cells #[.slice ca a.kids.length cac, .slice cb b.kids.length cbc] 67 (0,0))):=Lib.hid (heap_alloc_new _ _)
   refine par3_name (fun W5 hW=> ?_)
   rw[←hW] at HBn V3
   have HB:=HBn
   clear hW HBn
   refine par3_one 3 (by simp only[zga,zgb,zgc];rfl) (by kernel_rfl) (by rfl) ?_
   refine owp_val (v:= ?_) (w1:= ?_) ?_ ?_
   rotate_left 2
   ·(go_simp;constructor<;>rfl)
   refine⟨fun _ _=>HSB.out _ (HB.out.alloc HB.out.size _), ?_⟩
   simp only[Act.put,zpa,zpb,zpc]
   have HBn:=Lib.hid (HB.out.alloc HB.out.size (.cells #[.int .u64 key] 28))
   have V1:Hid ((W5.alloc (.cells #[.int .u64 key] 28)).heap[W5.heap.size]? =some (.cells #[.int .u64 key] 28 (0,0))):=Lib.hid (heap_alloc_new _ _)
   have V3:=Lib.hid (((below_alloc (o:=(.cells #[.int .u64 key] 28)) (Below.refl W5.heap.size W5)).block _ (Array.getElem?_eq_some_iff.1 V3.out).1).trans V3.out)
   refine par3_name (fun W6 hW=> ?_)
   rw[←hW] at HBn V3 V1
   have HB:=HBn
   clear hW HBn
   refine par3_one 6 (by simp only[zga,zgb,zgc];rfl) (by kernel_rfl) (by rfl) ?_
   refine owp_val (v:= ?_) (w1:= ?_) ?_ ?_
   rotate_left 2
   ·(go_simp;constructor<;>rfl)
   refine⟨fun _ _=>HSB.out _ (HB.out.alloc HB.out.size _), ?_⟩
   simp only[Act.put,zpa,zpb,zpc]
   have HBn:=Lib.hid (HB.out.alloc HB.out.size (.cells #[.slice ka a.keys.length kac, .slice (some ⟨W5.heap.size,0,none⟩) 1 1, .slice kb b.keys.length kbc] 57))
   have V2:Hid ((W6.alloc (.cells #[.slice ka a.keys.length kac, .slice (some ⟨W5.heap.size,0,none⟩) 1 1, .slice kb b.keys.length kbc] 57)).heap[W6.heap.size]? =some (.cells #[.slice ka a.keys.length kac, .slice (some ⟨W5.heap.size,0,none⟩) 1 1, .slice kb b.keys.length kbc] 57 (0,0))):=Lib.hid (heap_alloc_new _ _)
   have V3:=Lib.hid (((below_alloc (o:=(.cells #[.slice ka a.keys.length kac, .slice (some ⟨W5.heap.size,0,none⟩) 1 1, .slice kb b.keys.length kbc] 57)) (Below.refl W6.heap.size W6)).block _ (Array.getElem?_eq_some_iff.1 V3.out).1).trans V3.out)
   have V1:=Lib.hid (((below_alloc (o:=(.cells #[.slice ka a.keys.length kac, .slice (some ⟨W5.heap.size,0,none⟩) 1 1, .slice kb b.keys.length kbc] 57)) (Below.refl W6.heap.size W6)).block _ (Array.getElem?_eq_some_iff.1 V1.out).1).trans V1.out)
   refine par3_name (fun W7 hW=> ?_)
   rw[←hW] at HBn V3 V1 V2
   have HB:=HBn
   clear hW HBn
   refine par3_one 7 (by simp only[zga,zgb,zgc];rfl) (by kernel_rfl) (by rfl) ?_
   refine owp_call (by go_simp;constructor<;>rfl) ?_
   refine(catU_any (vb:=W6.heap.size) (w:=W7) [(.slice ka a.keys.length kac,a.keys),(.slice (some ⟨W5.heap.size,0,none⟩) 1 1,[key]),(.slice kb b.keys.length kbc,b.keys)] rfl (fun i x hx=>cells_three V2.out hx) (fun x hx=>by simp only[List.mem_cons,List.not_mem_nil,or_false] at hx;rcases hx with rfl|rfl|rfl;exact⟨(HA.out.below (HW3.out.trans (HB.out.mono HS3.out))).ks,HAN.out.1⟩;exact⟨IsI.cells (l:=[key]) V1.out rfl (by simp) (by simp[maxLen]),by simp⟩;exact⟨(HB0.out.below (HW3.out.trans (HB.out.mono HS3.out))).ks,HBN.out.1⟩) (by simp) (by simp) (by have:=HLN.out;simp[catL];omega)).mono ?_
   rintro e W8 ⟨vOK,rfl,ho,hb⟩
   rw[show catL [(.slice ka a.keys.length kac,a.keys),(.slice (some ⟨W5.heap.size,0,none⟩) 1 1,[key]),(.slice kb b.keys.length kbc,b.keys)]=KL by rw[HKL.out];simp[catL]] at ho
   obtain⟨aOK,cOK,hf⟩:=(IsI.own ho).form
   subst hf
   have hon:=own_lower ho HB.out.size
   have HB:=Lib.hid (HB.out.trans (hb.mono HB.out.size))
   have V3:=Lib.hid (((hb).block _ (Array.getElem?_eq_some_iff.1 V3.out).1).trans V3.out)
   have V1:=Lib.hid (((hb).block _ (Array.getElem?_eq_some_iff.1 V1.out).1).trans V1.out)
   have V2:=Lib.hid (((hb).block _ (Array.getElem?_eq_some_iff.1 V2.out).1).trans V2.out)
   have OK:=Lib.hid hon
   obtain⟨S,hS⟩: ∃S,S=W8.heap.size:=⟨_,rfl⟩
   have OKL:=Lib.hid (fun q (hq:(Value.slice aOK KL.length cOK).ownBlock=some q)=>(show q<S by rw[hS];exact(ho.lt q hq).2))
   have HKW:=Lib.hid (show S≤W8.heap.size by rw[hS];exact Nat.le_refl _)
   clear hS
   refine⟨_,rfl,fun _ _=>HSB.out _ HB.out, ?_⟩
   clear ho hb hon
   simp only[Act.put,zpa,zpb,zpc]
   refine par3_one 13 (by simp only[zga,zgb,zgc];rfl) (by kernel_rfl) (by rfl) ?_
   refine owp_call (by go_simp;constructor<;>rfl) ?_
   refine(catI_any (vb:=W4.heap.size) (w:=W8) [(.slice ca a.kids.length cac,a.kids),(.slice cb b.kids.length cbc,b.kids)] rfl (fun i x hx=>cells_two V3.out hx) (fun x hx=>by simp only[List.mem_cons,List.not_mem_nil,or_false] at hx;rcases hx with rfl|rfl;exact⟨(HA.out.below (HW3.out.trans (HB.out.mono HS3.out))).cs,HAN.out.2⟩;exact⟨(HB0.out.below (HW3.out.trans (HB.out.mono HS3.out))).cs,HBN.out.2⟩) (by simp) (by simp) (by have:=HLN.out;simp[catL];omega)).mono ?_
   rintro e W9 ⟨vOC,rfl,ho,hb⟩
   rw[show catL [(.slice ca a.kids.length cac,a.kids),(.slice cb b.kids.length cbc,b.kids)]=CL by rw[HCL.out];simp[catL]] at ho
   obtain⟨aOC,cOC,hf⟩:=(IsI.own ho).form
   subst hf
   have OCL:=Lib.hid (fun q (hq:(Value.slice aOC CL.length cOC).ownBlock=some q)=>Nat.le_trans HKW.out (ho.lt q hq).1)
   have hon:=own_lower ho HB.out.size
   have HB:=Lib.hid (HB.out.trans (hb.mono HB.out.size))
   have V3:=Lib.hid (((hb).block _ (Array.getElem?_eq_some_iff.1 V3.out).1).trans V3.out)
   have V1:=Lib.hid (((hb).block _ (Array.getElem?_eq_some_iff.1 V1.out).1).trans V1.out)
   have V2:=Lib.hid (((hb).block _ (Array.getElem?_eq_some_iff.1 V2.out).1).trans V2.out)
   have HKW:=Lib.hid (Nat.le_trans HKW.out (hb).size)
   have OK:=Lib.hid (ownsRow_touch OK.out (F:=[]) (Touch.of_below (hb)) (by simp))
   have OC:=Lib.hid hon
   refine⟨_,rfl,fun _ _=>HSB.out _ HB.out, ?_⟩
   clear ho hb hon
   simp only[Act.put,zpa,zpb,zpc]
   refine par3_move (v:= ?_) 14 (by simp only[zga,zgb,zgc];rfl) (by kernel_rfl) (by rfl) ?_ (fun _ _ _ h=>h) ?_
   rotate_left
   ·(intro w9;go_simp;try with_reducible rfl)
   simp only[Act.put,zpa,zpb,zpc]
   refine par3_tail _ (by simp only[List.drop_succ_cons,List.drop_zero];rfl) (by kernel_rfl) ?_
   skip
   have HRB:=Lib.hid (rowIs_touch HR3.out (F:=[]) (Touch.of_below HB.out) (by simp))
   go_wp2_with (refine wpList_store_node rfl (.tmp 6) (.tmp 36) rfl (w.heap.size+1+1) false (.slice aOK KL.length cOK) (.slice none 0 0) (.slice aOC CL.length cOC) (⟨false,KL,[],CL⟩:ND) rfl rfl rfl HRB.out (by simp[Value.oneCell']) ?_;intro w9 hr9 t9;have HR9:=Lib.hid hr9;have HT9:=Lib.hid t9;clear hr9 t9)
   refine NoPanic.normal ?_
   go_wp2_with fail
   refine bodyPost_ret_by (res_node1 Tryz.results188 rfl HR9.out) rfl ?_
   rw[HJ.out]
   have hoff: ∀q,W3.heap.size≤q→q∉ [w.heap.size+1+1]:=fun q hq=>by have:=World.rowIs.lt HR3.out;simp;omega
   refine⟨_,_,_,rfl,⟨own_lower (ownsRow_touch OK.out HT9.out (fun q hq=>hoff q (OK.out.lt q hq).1)) HS3.out,World.ownsRow_nil _ _ _ _,own_lower (ownsRow_touch OC.out HT9.out (fun q hq=>hoff q (OC.out.lt q hq).1)) HS3.out, ?_⟩, ?_⟩
   ·refine nodup_two (S:=S) (blkOf_nodup _) ?_ (fun q hq=>OKL.out q (by rw[blkOf_own OK.out] at hq;exact Option.mem_toList.1 hq)) (fun q hq=> ?_)
    ·simpa[blkOf] using blkOf_nodup (Value.slice aOC CL.length cOC)
    ·refine OCL.out q ?_
     have hq:q∈blkOf (Value.slice aOC CL.length cOC):=by simpa[blkOf] using hq
     rw[blkOf_own OC.out] at hq
     exact Option.mem_toList.1 hq
   ·exact(HW3.out.trans (HB.out.mono HS3.out)).trans (HT9.out.below (Nat.le_trans HS3.out HB.out.size) (fun x hx=>by simp at hx;omega))
 ·have hlb:b.leaf=true:=by rw[←he];exact hl
  obtain⟨a1,a2,a3, -⟩:=hka.leafs hl
  obtain⟨b1,b2,b3, -⟩:=hkb.leafs hlb
  have HAN:=Lib.hid (And.intro n1 (show a.vals≠ [] from fun e=>by rw[e] at a2;simp at a2;omega))
  have HBN:=Lib.hid (And.intro n2 (show b.vals≠ [] from fun e=>by rw[e] at b2;simp at b2;omega))
  have HLN:=Lib.hid (show a.keys.length≤40∧b.keys.length≤40∧a.vals.length≤41∧b.vals.length≤41 by omega)
  obtain⟨KL,hKL⟩: ∃KL,KL=a.keys++b.keys:=⟨_,rfl⟩
  obtain⟨CL,hCL⟩: ∃CL,CL=a.vals++b.vals:=⟨_,rfl⟩
  have HJ:=Lib.hid (show joinN a key b=⟨true,KL,CL,[]⟩ by rw[hKL,hCL];unfold joinN;rw[if_pos hl])
  have HKL:=Lib.hid hKL
  have HCL:=Lib.hid hCL
  clear hKL hCL
  rw[hlb]
  obtain⟨W3,hW3⟩: ∃W3,W3=((w.alloc (.cells #[.bool true, .slice ka a.keys.length kac, .slice va a.vals.length vac, .slice ca a.kids.length cac] 109)).alloc (.cells #[.bool true, .slice kb b.keys.length kbc, .slice vb b.vals.length vbc, .slice cb b.kids.length cbc] 109)).alloc (.cells #[.bool false, .slice none 0 0, .slice none 0 0, .slice none 0 0] 109):=⟨_,rfl⟩
  have HW3:Hid (Below w.heap.size w W3):=Lib.hid (by rw[hW3];exact below_alloc (below_alloc (below_alloc (Below.refl _ _))))
  have HRA:Hid (W3.rowIs w.heap.size 109 4 (ndF (.slice ka a.keys.length kac) (.slice va a.vals.length vac) (.slice ca a.kids.length cac) a)):=Lib.hid (by
   have h:=ndF_new w (.slice ka a.keys.length kac) (.slice va a.vals.length vac) (.slice ca a.kids.length cac) a
   rw[hl] at h
   rw[hW3]
   exact rowIs_touch (rowIs_touch h (F:=[]) ((Touch.refl _ _).alloc _) (by simp)) (F:=[]) ((Touch.refl _ _).alloc _) (by simp))
  have HRBb:Hid (W3.rowIs (w.heap.size+1) 109 4 (ndF (.slice kb b.keys.length kbc) (.slice vb b.vals.length vbc) (.slice cb b.kids.length cbc) b)):=Lib.hid (by
   have h:=ndF_new (w.alloc (.cells #[.bool true, .slice ka a.keys.length kac, .slice va a.vals.length vac, .slice ca a.kids.length cac] 109)) (.slice kb b.keys.length kbc) (.slice vb b.vals.length vbc) (.slice cb b.kids.length cbc) b
   rw[World.size_alloc_eq,hlb] at h
   rw[hW3]
   exact rowIs_touch h (F:=[]) ((Touch.refl _ _).alloc _) (by simp))
  have HR3:Hid (W3.rowIs (w.heap.size+1+1) 109 4 (ndF (.slice none 0 0) (.slice none 0 0) (.slice none 0 0) nd0)):=Lib.hid (by
   have h:=node0_new ((w.alloc (.cells #[.bool true, .slice ka a.keys.length kac, .slice va a.vals.length vac, .slice ca a.kids.length cac] 109)).alloc (.cells #[.bool true, .slice kb b.keys.length kbc, .slice vb b.vals.length vbc, .slice cb b.kids.length cbc] 109))
   rw[World.size_alloc_eq,World.size_alloc_eq] at h
   rw[hW3]
   exact h)
  have HS3:=Lib.hid HW3.out.size
  have HW3E:=Lib.hid hW3
  clear hW3
  clear h1 h2 n1 n2 a1 a2 a3 b1 b2 b3 hka hkb he
  go_enter Tryz.func188,Tryz.ntmps188
  go_wp2_with fail
  rw[←HW3E.out]
  have hS:(fun w':World=>w'.cell? ⟨w.heap.size,1,none⟩=some (.slice ka a.keys.length kac)∧w'.cell? ⟨w.heap.size+1,1,none⟩=some (.slice kb b.keys.length kbc)∧w'.cell? ⟨w.heap.size,2,none⟩=some (.slice va a.vals.length vac)∧w'.cell? ⟨w.heap.size+1,2,none⟩=some (.slice vb b.vals.length vbc)) W3:=
   ⟨World.rowIs.cell HRA.out (i:=1) (by decide),World.rowIs.cell HRBb.out (i:=1) (by decide),World.rowIs.cell HRA.out (i:=2) (by decide),World.rowIs.cell HRBb.out (i:=2) (by decide)⟩
  have HSB:=Lib.hid (fun(w':World) (t:Below W3.heap.size W3 w')=>(show(fun w':World=>w'.cell? ⟨w.heap.size,1,none⟩=some (.slice ka a.keys.length kac)∧w'.cell? ⟨w.heap.size+1,1,none⟩=some (.slice kb b.keys.length kbc)∧w'.cell? ⟨w.heap.size,2,none⟩=some (.slice va a.vals.length vac)∧w'.cell? ⟨w.heap.size+1,2,none⟩=some (.slice vb b.vals.length vbc)) w' from
   ⟨(t.cell (p:=⟨_,_,none⟩) (World.rowIs.lt HRA.out)).trans hS.1,(t.cell (p:=⟨_,_,none⟩) (World.rowIs.lt HRBb.out)).trans hS.2.1,(t.cell (p:=⟨_,_,none⟩) (World.rowIs.lt HRA.out)).trans hS.2.2.1,(t.cell (p:=⟨_,_,none⟩) (World.rowIs.lt HRBb.out)).trans hS.2.2.2⟩))
  have HB:=Lib.hid ((Touch.refl [] W3).drew.below (Nat.le_refl W3.heap.size) (by simp))
  have HS0:=Lib.hid (HSB.out _ HB.out)
  clear hS
  refine wp_region_noPanic ?_
  refine wp_region_par3 13 13 (by kernel_rfl) (by kernel_rfl) (by simp) (by omega) (by kernel_rfl) (by kernel_rfl) (fun w':World=>w'.cell? ⟨w.heap.size,1,none⟩=some (.slice ka a.keys.length kac)∧w'.cell? ⟨w.heap.size+1,1,none⟩=some (.slice kb b.keys.length kbc)∧w'.cell? ⟨w.heap.size,2,none⟩=some (.slice va a.vals.length vac)∧w'.cell? ⟨w.heap.size+1,2,none⟩=some (.slice vb b.vals.length vbc)) ?_
  refine par3_move (v:= ?_) 0 (by simp only[zga,zgb,zgc];rfl) (by kernel_rfl) (by rfl) ?_ (fun _ _ _ h=>h) ?_
  rotate_left
  ·(intro w9;go_simp;try with_reducible rfl)
  simp only[Act.put,zpa,zpb,zpc]
  refine par3_read (v:= ?_) 1 (by simp only[zga,zgb,zgc];rfl) (by kernel_rfl) (by rfl) HS0.out ?_ (fun _ _ _ h=>h) ?_
  rotate_left
  ·(intro w9 hSw;(try dsimp only at hSw);go_simp;try with_reducible rfl)
  simp only[Act.put,zpa,zpb,zpc]
  refine par3_move (v:= ?_) 2 (by simp only[zga,zgb,zgc];rfl) (by kernel_rfl) (by rfl) ?_ (fun _ _ _ h=>h) ?_
  rotate_left
  ·(intro w9;go_simp;try with_reducible rfl)
  simp only[Act.put,zpa,zpb,zpc]
  refine par3_read (v:= ?_) 3 (by simp only[zga,zgb,zgc];rfl) (by kernel_rfl) (by rfl) HS0.out ?_ (fun _ _ _ h=>h) ?_
  rotate_left
  ·(intro w9 hSw;(try dsimp only at hSw);go_simp;try with_reducible rfl)
  simp only[Act.put,zpa,zpb,zpc]
  refine par3_move (v:= ?_) 6 (by simp only[zga,zgb,zgc];rfl) (by kernel_rfl) (by rfl) ?_ (fun _ _ _ h=>h) ?_
  rotate_left
  ·(intro w9;go_simp;try with_reducible rfl)
  simp only[Act.put,zpa,zpb,zpc]
  refine par3_read (v:= ?_) 7 (by simp only[zga,zgb,zgc];rfl) (by kernel_rfl) (by rfl) HS0.out ?_ (fun _ _ _ h=>h) ?_
  rotate_left
  ·(intro w9 hSw;(try dsimp only at hSw);go_simp;try with_reducible rfl)
  simp only[Act.put,zpa,zpb,zpc]
  refine par3_move (v:= ?_) 8 (by simp only[zga,zgb,zgc];rfl) (by kernel_rfl) (by rfl) ?_ (fun _ _ _ h=>h) ?_
  rotate_left
  ·(intro w9;go_simp;try with_reducible rfl)
  simp only[Act.put,zpa,zpb,zpc]
  refine par3_read (v:= ?_) 9 (by simp only[zga,zgb,zgc];rfl) (by kernel_rfl) (by rfl) HS0.out ?_ (fun _ _ _ h=>h) ?_
  rotate_left
  ·(intro w9 hSw;(try dsimp only at hSw);go_simp;try with_reducible rfl)
  simp only[Act.put,zpa,zpb,zpc]
  refine par3_name (fun W4 hW4=> ?_)
  rw[←hW4] at HB
  clear hW4 HS0
  refine par3_two 4 10 (by simp only[zga,zgb,zgc];rfl) (by simp only[zga,zgb,zgc];rfl) (by kernel_rfl) (by rfl) (by rfl) ?_ ?_
  ·refine owp_val (v:= ?_) (w1:= ?_) ?_ ?_
   rotate_left 2
   ·(go_simp;constructor<;>rfl)
   refine⟨fun _ _=>HSB.out _ (HB.out.alloc HB.out.size _), ?_⟩
   simp only[Act.put,zpa,zpb,zpc]
   have HBn:=Lib.hid (HB.out.alloc HB.out.size (.cells #[.slice ka a.keys.length kac, .slice kb b.keys.length kbc] 57))
   have V2:Hid ((W4.alloc (.cells #[.slice ka a.keys.length kac, .slice kb b.keys.length kbc] 57)).heap[W4.heap.size]? =some (.cells #[.slice ka a.keys.length kac, .slice kb b.keys.length kbc] 57 (0,0))):=Lib.hid (heap_alloc_new _ _)
   refine par3_name (fun W5 hW=> ?_)
   rw[←hW] at HBn V2
   have HB:=HBn
   clear hW HBn
   refine par3_two 5 10 (by simp only[zga,zgb,zgc];rfl) (by simp only[zga,zgb,zgc];rfl) (by kernel_rfl) (by rfl) (by rfl) ?_ ?_
   ·refine owp_call (by go_simp;constructor<;>rfl) ?_
    refine(catU_any (vb:=W4.heap.size) (w:=W5) [(.slice ka a.keys.length kac,a.keys),(.slice kb b.keys.length kbc,b.keys)] rfl (fun i x hx=>cells_two V2.out hx) (fun x hx=>by simp only[List.mem_cons,List.not_mem_nil,or_false] at hx;rcases hx with rfl|rfl;exact⟨(HA.out.below (HW3.out.trans (HB.out.mono HS3.out))).ks,HAN.out.1⟩;exact⟨(HB0.out.below (HW3.out.trans (HB.out.mono HS3.out))).ks,HBN.out.1⟩) (by simp) (by simp) (by have:=HLN.out;simp[catL];omega)).mono ?_
    rintro e W6 ⟨vOK,rfl,ho,hb⟩
    rw[show catL [(.slice ka a.keys.length kac,a.keys),(.slice kb b.keys.length kbc,b.keys)]=KL by rw[HKL.out];simp[catL]] at ho
    obtain⟨aOK,cOK,hf⟩:=(IsI.own ho).form
    subst hf
    have hon:=own_lower ho HB.out.size
    have HB:=Lib.hid (HB.out.trans (hb.mono HB.out.size))
    have V2:=Lib.hid (((hb).block _ (Array.getElem?_eq_some_iff.1 V2.out).1).trans V2.out)
    have OK:=Lib.hid hon
    obtain⟨S,hS⟩: ∃S,S=W6.heap.size:=⟨_,rfl⟩
    have OKL:=Lib.hid (fun q (hq:(Value.slice aOK KL.length cOK).ownBlock=some q)=>(show q<S by rw[hS];exact(ho.lt q hq).2))
    have HKW:=Lib.hid (show S≤W6.heap.size by rw[hS];exact Nat.le_refl _)
    clear hS
    refine⟨_,rfl,fun _ _=>HSB.out _ HB.out, ?_⟩
    clear ho hb hon
    simp only[Act.put,zpa,zpb,zpc]
    refine par3_one 10 (by simp only[zga,zgb,zgc];rfl) (by kernel_rfl) (by rfl) ?_
    refine owp_val (v:= ?_) (w1:= ?_) ?_ ?_
    rotate_left 2
    ·(go_simp;constructor<;>rfl)
    refine⟨fun _ _=>HSB.out _ (HB.out.alloc HB.out.size _), ?_⟩
    simp only[Act.put,zpa,zpb,zpc]
    have HBn:=Lib.hid (HB.out.alloc HB.out.size (.cells #[.slice va a.vals.length vac, .slice vb b.vals.length vbc] 57))
    have V3:Hid ((W6.alloc (.cells #[.slice va a.vals.length vac, .slice vb b.vals.length vbc] 57)).heap[W6.heap.size]? =some (.cells #[.slice va a.vals.length vac, .slice vb b.vals.length vbc] 57 (0,0))):=Lib.hid (heap_alloc_new _ _)
    have V2:=Lib.hid (((below_alloc (o:=(.cells #[.slice va a.vals.length vac, .slice vb b.vals.length vbc] 57)) (Below.refl W6.heap.size W6)).block _ (Array.getElem?_eq_some_iff.1 V2.out).1).trans V2.out)
    have HKW:=Lib.hid (Nat.le_trans HKW.out (below_alloc (o:=(.cells #[.slice va a.vals.length vac, .slice vb b.vals.length vbc] 57)) (Below.refl W6.heap.size W6)).size)
    have OK:=Lib.hid (ownsRow_touch OK.out (F:=[]) (Touch.of_below (below_alloc (o:=(.cells #[.slice va a.vals.length vac, .slice vb b.vals.length vbc] 57)) (Below.refl W6.heap.size W6))) (by simp))
    refine par3_name (fun W7 hW=> ?_)
    rw[←hW] at HBn V2 HKW OK V3
    have HB:=HBn
    clear hW HBn
    refine par3_one 11 (by simp only[zga,zgb,zgc];rfl) (by kernel_rfl) (by rfl) ?_
    refine owp_call (by go_simp;constructor<;>rfl) ?_
    refine(catU_any (vb:=W6.heap.size) (w:=W7) [(.slice va a.vals.length vac,a.vals),(.slice vb b.vals.length vbc,b.vals)] rfl (fun i x hx=>cells_two V3.out hx) (fun x hx=>by simp only[List.mem_cons,List.not_mem_nil,or_false] at hx;rcases hx with rfl|rfl;exact⟨(HA.out.below (HW3.out.trans (HB.out.mono HS3.out))).vs,HAN.out.2⟩;exact⟨(HB0.out.below (HW3.out.trans (HB.out.mono HS3.out))).vs,HBN.out.2⟩) (by simp) (by simp) (by have:=HLN.out;simp[catL];omega)).mono ?_
    rintro e W8 ⟨vOC,rfl,ho,hb⟩
    rw[show catL [(.slice va a.vals.length vac,a.vals),(.slice vb b.vals.length vbc,b.vals)]=CL by rw[HCL.out];simp[catL]] at ho
    obtain⟨aOC,cOC,hf⟩:=(IsI.own ho).form
    subst hf
    have OCL:=Lib.hid (fun q (hq:(Value.slice aOC CL.length cOC).ownBlock=some q)=>Nat.le_trans HKW.out (ho.lt q hq).1)
    have hon:=own_lower ho HB.out.size
    have HB:=Lib.hid (HB.out.trans (hb.mono HB.out.size))
    have V2:=Lib.hid (((hb).block _ (Array.getElem?_eq_some_iff.1 V2.out).1).trans V2.out)
    have HKW:=Lib.hid (Nat.le_trans HKW.out (hb).size)
    have OK:=Lib.hid (ownsRow_touch OK.out (F:=[]) (Touch.of_below (hb)) (by simp))
    have V3:=Lib.hid (((hb).block _ (Array.getElem?_eq_some_iff.1 V3.out).1).trans V3.out)
    have OC:=Lib.hid hon
    refine⟨_,rfl,fun _ _=>HSB.out _ HB.out, ?_⟩
    clear ho hb hon
    simp only[Act.put,zpa,zpb,zpc]
    refine par3_move (v:= ?_) 12 (by simp only[zga,zgb,zgc];rfl) (by kernel_rfl) (by rfl) ?_ (fun _ _ _ h=>h) ?_
    rotate_left
    ·(intro w9;go_simp;try with_reducible rfl)
    simp only[Act.put,zpa,zpb,zpc]
    refine par3_tail _ (by simp only[List.drop_succ_cons,List.drop_zero];rfl) (by kernel_rfl) ?_
    skip
    have HRB:=Lib.hid (rowIs_touch HR3.out (F:=[]) (Touch.of_below HB.out) (by simp))
    go_wp2_with (refine wpList_store_node rfl (.tmp 6) (.tmp 21) rfl (w.heap.size+1+1) true (.slice aOK KL.length cOK) (.slice aOC CL.length cOC) (.slice none 0 0) (⟨true,KL,CL,[]⟩:ND) rfl rfl rfl HRB.out (by simp[Value.oneCell']) ?_;intro w9 hr9 t9;have HR9:=Lib.hid hr9;have HT9:=Lib.hid t9;clear hr9 t9)
    refine NoPanic.normal ?_
    go_wp2_with fail
    refine bodyPost_ret_by (res_node1 Tryz.results188 rfl HR9.out) rfl ?_
    rw[HJ.out]
    have hoff: ∀q,W3.heap.size≤q→q∉ [w.heap.size+1+1]:=fun q hq=>by have:=World.rowIs.lt HR3.out;simp;omega
    refine⟨_,_,_,rfl,⟨own_lower (ownsRow_touch OK.out HT9.out (fun q hq=>hoff q (OK.out.lt q hq).1)) HS3.out,own_lower (ownsRow_touch OC.out HT9.out (fun q hq=>hoff q (OC.out.lt q hq).1)) HS3.out,World.ownsRow_nil _ _ _ _, ?_⟩, ?_⟩
    ·refine nodup_two (S:=S) (blkOf_nodup _) ?_ (fun q hq=>OKL.out q (by rw[blkOf_own OK.out] at hq;exact Option.mem_toList.1 hq)) (fun q hq=> ?_)
     ·simpa[blkOf] using blkOf_nodup (Value.slice aOC CL.length cOC)
     ·refine OCL.out q ?_
      have hq:q∈blkOf (Value.slice aOC CL.length cOC):=by simpa[blkOf] using hq
      rw[blkOf_own OC.out] at hq
      exact Option.mem_toList.1 hq
    ·exact(HW3.out.trans (HB.out.mono HS3.out)).trans (HT9.out.below (Nat.le_trans HS3.out HB.out.size) (fun x hx=>by simp at hx;omega))
   ·refine owp_val (v:= ?_) (w1:= ?_) ?_ ?_
    rotate_left 2
    ·(go_simp;constructor<;>rfl)
    refine⟨fun _ _=>HSB.out _ (HB.out.alloc HB.out.size _), ?_⟩
    simp only[Act.put,zpa,zpb,zpc]
    have HBn:=Lib.hid (HB.out.alloc HB.out.size (.cells #[.slice va a.vals.length vac, .slice vb b.vals.length vbc] 57))
    have V3:Hid ((W5.alloc (.cells #[.slice va a.vals.length vac, .slice vb b.vals.length vbc] 57)).heap[W5.heap.size]? =some (.cells #[.slice va a.vals.length vac, .slice vb b.vals.length vbc] 57 (0,0))):=Lib.hid (heap_alloc_new _ _)
    have V2:=Lib.hid (((below_alloc (o:=(.cells #[.slice va a.vals.length vac, .slice vb b.vals.length vbc] 57)) (Below.refl W5.heap.size W5)).block _ (Array.getElem?_eq_some_iff.1 V2.out).1).trans V2.out)
    refine par3_name (fun W6 hW=> ?_)
    rw[←hW] at HBn V2 V3
    have HB:=HBn
    clear hW HBn
    refine par3_one 5 (by simp only[zga,zgb,zgc];rfl) (by kernel_rfl) (by rfl) ?_
    refine owp_call (by go_simp;constructor<;>rfl) ?_
    refine(catU_any (vb:=W4.heap.size) (w:=W6) [(.slice ka a.keys.length kac,a.keys),(.slice kb b.keys.length kbc,b.keys)] rfl (fun i x hx=>cells_two V2.out hx) (fun x hx=>by simp only[List.mem_cons,List.not_mem_nil,or_false] at hx;rcases hx with rfl|rfl;exact⟨(HA.out.below (HW3.out.trans (HB.out.mono HS3.out))).ks,HAN.out.1⟩;exact⟨(HB0.out.below (HW3.out.trans (HB.out.mono HS3.out))).ks,HBN.out.1⟩) (by simp) (by simp) (by have:=HLN.out;simp[catL];omega)).mono ?_
    rintro e W7 ⟨vOK,rfl,ho,hb⟩
    rw[show catL [(.slice ka a.keys.length kac,a.keys),(.slice kb b.keys.length kbc,b.keys)]=KL by rw[HKL.out];simp[catL]] at ho
    obtain⟨aOK,cOK,hf⟩:=(IsI.own ho).form
    subst hf
    have hon:=own_lower ho HB.out.size
    have HB:=Lib.hid (HB.out.trans (hb.mono HB.out.size))
    have V2:=Lib.hid (((hb).block _ (Array.getElem?_eq_some_iff.1 V2.out).1).trans V2.out)
    have V3:=Lib.hid (((hb).block _ (Array.getElem?_eq_some_iff.1 V3.out).1).trans V3.out)
    have OK:=Lib.hid hon
    obtain⟨S,hS⟩: ∃S,S=W7.heap.size:=⟨_,rfl⟩
    have OKL:=Lib.hid (fun q (hq:(Value.slice aOK KL.length cOK).ownBlock=some q)=>(show q<S by rw[hS];exact(ho.lt q hq).2))
    have HKW:=Lib.hid (show S≤W7.heap.size by rw[hS];exact Nat.le_refl _)
    clear hS
    refine⟨_,rfl,fun _ _=>HSB.out _ HB.out, ?_⟩
    clear ho hb hon
    simp only[Act.put,zpa,zpb,zpc]
    refine par3_one 11 (by simp only[zga,zgb,zgc];rfl) (by kernel_rfl) (by rfl) ?_
    refine owp_call (by go_simp;constructor<;>rfl) ?_
    refine(catU_any (vb:=W5.heap.size) (w:=W7) [(.slice va a.vals.length vac,a.vals),(.slice vb b.vals.length vbc,b.vals)] rfl (fun i x hx=>cells_two V3.out hx) (fun x hx=>by simp only[List.mem_cons,List.not_mem_nil,or_false] at hx;rcases hx with rfl|rfl;exact⟨(HA.out.below (HW3.out.trans (HB.out.mono HS3.out))).vs,HAN.out.2⟩;exact⟨(HB0.out.below (HW3.out.trans (HB.out.mono HS3.out))).vs,HBN.out.2⟩) (by simp) (by simp) (by have:=HLN.out;simp[catL];omega)).mono ?_
    rintro e W8 ⟨vOC,rfl,ho,hb⟩
    rw[show catL [(.slice va a.vals.length vac,a.vals),(.slice vb b.vals.length vbc,b.vals)]=CL by rw[HCL.out];simp[catL]] at ho
    obtain⟨aOC,cOC,hf⟩:=(IsI.own ho).form
    subst hf
    have OCL:=Lib.hid (fun q (hq:(Value.slice aOC CL.length cOC).ownBlock=some q)=>Nat.le_trans HKW.out (ho.lt q hq).1)
    have hon:=own_lower ho HB.out.size
    have HB:=Lib.hid (HB.out.trans (hb.mono HB.out.size))
    have V2:=Lib.hid (((hb).block _ (Array.getElem?_eq_some_iff.1 V2.out).1).trans V2.out)
    have V3:=Lib.hid (((hb).block _ (Array.getElem?_eq_some_iff.1 V3.out).1).trans V3.out)
    have HKW:=Lib.hid (Nat.le_trans HKW.out (hb).size)
    have OK:=Lib.hid (ownsRow_touch OK.out (F:=[]) (Touch.of_below (hb)) (by simp))
    have OC:=Lib.hid hon
    refine⟨_,rfl,fun _ _=>HSB.out _ HB.out, ?_⟩
    clear ho hb hon
    simp only[Act.put,zpa,zpb,zpc]
    refine par3_move (v:= ?_) 12 (by simp only[zga,zgb,zgc];rfl) (by kernel_rfl) (by rfl) ?_ (fun _ _ _ h=>h) ?_
    rotate_left
    ·(intro w9;go_simp;try with_reducible rfl)
    simp only[Act.put,zpa,zpb,zpc]
    refine par3_tail _ (by simp only[List.drop_succ_cons,List.drop_zero];rfl) (by kernel_rfl) ?_
    skip
    have HRB:=Lib.hid (rowIs_touch HR3.out (F:=[]) (Touch.of_below HB.out) (by simp))
    go_wp2_with (refine wpList_store_node rfl (.tmp 6) (.tmp 21) rfl (w.heap.size+1+1) true (.slice aOK KL.length cOK) (.slice aOC CL.length cOC) (.slice none 0 0) (⟨true,KL,CL,[]⟩:ND) rfl rfl rfl HRB.out (by simp[Value.oneCell']) ?_;intro w9 hr9 t9;have HR9:=Lib.hid hr9;have HT9:=Lib.hid t9;clear hr9 t9)
    refine NoPanic.normal ?_
    go_wp2_with fail
    refine bodyPost_ret_by (res_node1 Tryz.results188 rfl HR9.out) rfl ?_
    rw[HJ.out]
    have hoff: ∀q,W3.heap.size≤q→q∉ [w.heap.size+1+1]:=fun q hq=>by have:=World.rowIs.lt HR3.out;simp;omega
    refine⟨_,_,_,rfl,⟨own_lower (ownsRow_touch OK.out HT9.out (fun q hq=>hoff q (OK.out.lt q hq).1)) HS3.out,own_lower (ownsRow_touch OC.out HT9.out (fun q hq=>hoff q (OC.out.lt q hq).1)) HS3.out,World.ownsRow_nil _ _ _ _, ?_⟩, ?_⟩
    ·refine nodup_two (S:=S) (blkOf_nodup _) ?_ (fun q hq=>OKL.out q (by rw[blkOf_own OK.out] at hq;exact Option.mem_toList.1 hq)) (fun q hq=> ?_)
     ·simpa[blkOf] using blkOf_nodup (Value.slice aOC CL.length cOC)
     ·refine OCL.out q ?_
      have hq:q∈blkOf (Value.slice aOC CL.length cOC):=by simpa[blkOf] using hq
      rw[blkOf_own OC.out] at hq
      exact Option.mem_toList.1 hq
    ·exact(HW3.out.trans (HB.out.mono HS3.out)).trans (HT9.out.below (Nat.le_trans HS3.out HB.out.size) (fun x hx=>by simp at hx;omega))
  ·refine owp_val (v:= ?_) (w1:= ?_) ?_ ?_
   rotate_left 2
   ·(go_simp;constructor<;>rfl)
   refine⟨fun _ _=>HSB.out _ (HB.out.alloc HB.out.size _), ?_⟩
   simp only[Act.put,zpa,zpb,zpc]
   have HBn:=Lib.hid (HB.out.alloc HB.out.size (.cells #[.slice va a.vals.length vac, .slice vb b.vals.length vbc] 57))
   have V3:Hid ((W4.alloc (.cells #[.slice va a.vals.length vac, .slice vb b.vals.length vbc] 57)).heap[W4.heap.size]? =some (.cells #[.slice va a.vals.length vac, .slice vb b.vals.length vbc] 57 (0,0))):=Lib.hid (heap_alloc_new _ _)
   refine par3_name (fun W5 hW=> ?_)
   rw[←hW] at HBn V3
   have HB:=HBn
   clear hW HBn
   refine par3_one 4 (by simp only[zga,zgb,zgc];rfl) (by kernel_rfl) (by rfl) ?_
   refine owp_val (v:= ?_) (w1:= ?_) ?_ ?_
   rotate_left 2
   ·(go_simp;constructor<;>rfl)
   refine⟨fun _ _=>HSB.out _ (HB.out.alloc HB.out.size _), ?_⟩
   simp only[Act.put,zpa,zpb,zpc]
   have HBn:=Lib.hid (HB.out.alloc HB.out.size (.cells #[.slice ka a.keys.length kac, .slice kb b.keys.length kbc] 57))
   have V2:Hid ((W5.alloc (.cells #[.slice ka a.keys.length kac, .slice kb b.keys.length kbc] 57)).heap[W5.heap.size]? =some (.cells #[.slice ka a.keys.length kac, .slice kb b.keys.length kbc] 57 (0,0))):=Lib.hid (heap_alloc_new _ _)
   have V3:=Lib.hid (((below_alloc (o:=(.cells #[.slice ka a.keys.length kac, .slice kb b.keys.length kbc] 57)) (Below.refl W5.heap.size W5)).block _ (Array.getElem?_eq_some_iff.1 V3.out).1).trans V3.out)
   refine par3_name (fun W6 hW=> ?_)
   rw[←hW] at HBn V3 V2
   have HB:=HBn
   clear hW HBn
   refine par3_one 5 (by simp only[zga,zgb,zgc];rfl) (by kernel_rfl) (by rfl) ?_
   refine owp_call (by go_simp;constructor<;>rfl) ?_
   refine(catU_any (vb:=W5.heap.size) (w:=W6) [(.slice ka a.keys.length kac,a.keys),(.slice kb b.keys.length kbc,b.keys)] rfl (fun i x hx=>cells_two V2.out hx) (fun x hx=>by simp only[List.mem_cons,List.not_mem_nil,or_false] at hx;rcases hx with rfl|rfl;exact⟨(HA.out.below (HW3.out.trans (HB.out.mono HS3.out))).ks,HAN.out.1⟩;exact⟨(HB0.out.below (HW3.out.trans (HB.out.mono HS3.out))).ks,HBN.out.1⟩) (by simp) (by simp) (by have:=HLN.out;simp[catL];omega)).mono ?_
   rintro e W7 ⟨vOK,rfl,ho,hb⟩
   rw[show catL [(.slice ka a.keys.length kac,a.keys),(.slice kb b.keys.length kbc,b.keys)]=KL by rw[HKL.out];simp[catL]] at ho
   obtain⟨aOK,cOK,hf⟩:=(IsI.own ho).form
   subst hf
   have hon:=own_lower ho HB.out.size
   have HB:=Lib.hid (HB.out.trans (hb.mono HB.out.size))
   have V3:=Lib.hid (((hb).block _ (Array.getElem?_eq_some_iff.1 V3.out).1).trans V3.out)
   have V2:=Lib.hid (((hb).block _ (Array.getElem?_eq_some_iff.1 V2.out).1).trans V2.out)
   have OK:=Lib.hid hon
   obtain⟨S,hS⟩: ∃S,S=W7.heap.size:=⟨_,rfl⟩
   have OKL:=Lib.hid (fun q (hq:(Value.slice aOK KL.length cOK).ownBlock=some q)=>(show q<S by rw[hS];exact(ho.lt q hq).2))
   have HKW:=Lib.hid (show S≤W7.heap.size by rw[hS];exact Nat.le_refl _)
   clear hS
   refine⟨_,rfl,fun _ _=>HSB.out _ HB.out, ?_⟩
   clear ho hb hon
   simp only[Act.put,zpa,zpb,zpc]
   refine par3_one 11 (by simp only[zga,zgb,zgc];rfl) (by kernel_rfl) (by rfl) ?_
   refine owp_call (by go_simp;constructor<;>rfl) ?_
   refine(catU_any (vb:=W4.heap.size) (w:=W7) [(.slice va a.vals.length vac,a.vals),(.slice vb b.vals.length vbc,b.vals)] rfl (fun i x hx=>cells_two V3.out hx) (fun x hx=>by simp only[List.mem_cons,List.not_mem_nil,or_false] at hx;rcases hx with rfl|rfl;exact⟨(HA.out.below (HW3.out.trans (HB.out.mono HS3.out))).vs,HAN.out.2⟩;exact⟨(HB0.out.below (HW3.out.trans (HB.out.mono HS3.out))).vs,HBN.out.2⟩) (by simp) (by simp) (by have:=HLN.out;simp[catL];omega)).mono ?_
   rintro e W8 ⟨vOC,rfl,ho,hb⟩
   rw[show catL [(.slice va a.vals.length vac,a.vals),(.slice vb b.vals.length vbc,b.vals)]=CL by rw[HCL.out];simp[catL]] at ho
   obtain⟨aOC,cOC,hf⟩:=(IsI.own ho).form
   subst hf
   have OCL:=Lib.hid (fun q (hq:(Value.slice aOC CL.length cOC).ownBlock=some q)=>Nat.le_trans HKW.out (ho.lt q hq).1)
   have hon:=own_lower ho HB.out.size
   have HB:=Lib.hid (HB.out.trans (hb.mono HB.out.size))
   have V3:=Lib.hid (((hb).block _ (Array.getElem?_eq_some_iff.1 V3.out).1).trans V3.out)
   have V2:=Lib.hid (((hb).block _ (Array.getElem?_eq_some_iff.1 V2.out).1).trans V2.out)
   have HKW:=Lib.hid (Nat.le_trans HKW.out (hb).size)
   have OK:=Lib.hid (ownsRow_touch OK.out (F:=[]) (Touch.of_below (hb)) (by simp))
   have OC:=Lib.hid hon
   refine⟨_,rfl,fun _ _=>HSB.out _ HB.out, ?_⟩
   clear ho hb hon
   simp only[Act.put,zpa,zpb,zpc]
   refine par3_move (v:= ?_) 12 (by simp only[zga,zgb,zgc];rfl) (by kernel_rfl) (by rfl) ?_ (fun _ _ _ h=>h) ?_
   rotate_left
   ·(intro w9;go_simp;try with_reducible rfl)
   simp only[Act.put,zpa,zpb,zpc]
   refine par3_tail _ (by simp only[List.drop_succ_cons,List.drop_zero];rfl) (by kernel_rfl) ?_
   skip
   have HRB:=Lib.hid (rowIs_touch HR3.out (F:=[]) (Touch.of_below HB.out) (by simp))
   go_wp2_with (refine wpList_store_node rfl (.tmp 6) (.tmp 21) rfl (w.heap.size+1+1) true (.slice aOK KL.length cOK) (.slice aOC CL.length cOC) (.slice none 0 0) (⟨true,KL,CL,[]⟩:ND) rfl rfl rfl HRB.out (by simp[Value.oneCell']) ?_;intro w9 hr9 t9;have HR9:=Lib.hid hr9;have HT9:=Lib.hid t9;clear hr9 t9)
   refine NoPanic.normal ?_
   go_wp2_with fail
   refine bodyPost_ret_by (res_node1 Tryz.results188 rfl HR9.out) rfl ?_
   rw[HJ.out]
   have hoff: ∀q,W3.heap.size≤q→q∉ [w.heap.size+1+1]:=fun q hq=>by have:=World.rowIs.lt HR3.out;simp;omega
   refine⟨_,_,_,rfl,⟨own_lower (ownsRow_touch OK.out HT9.out (fun q hq=>hoff q (OK.out.lt q hq).1)) HS3.out,own_lower (ownsRow_touch OC.out HT9.out (fun q hq=>hoff q (OC.out.lt q hq).1)) HS3.out,World.ownsRow_nil _ _ _ _, ?_⟩, ?_⟩
   ·refine nodup_two (S:=S) (blkOf_nodup _) ?_ (fun q hq=>OKL.out q (by rw[blkOf_own OK.out] at hq;exact Option.mem_toList.1 hq)) (fun q hq=> ?_)
    ·simpa[blkOf] using blkOf_nodup (Value.slice aOC CL.length cOC)
    ·refine OCL.out q ?_
     have hq:q∈blkOf (Value.slice aOC CL.length cOC):=by simpa[blkOf] using hq
     rw[blkOf_own OC.out] at hq
     exact Option.mem_toList.1 hq
   ·exact(HW3.out.trans (HB.out.mono HS3.out)).trans (HT9.out.below (Nat.le_trans HS3.out HB.out.size) (fun x hx=>by simp at hx;omega))
end Go.Proofs.YtjgkegkinnlcoaaGreatDoor
