/- The walk of croftlaw18.Rows. -/
import Derived.Test.YthopjhifepijiaaTblOwn
namespace Go.Proofs.Ythopjhifepijiaa
open Go.RowKit Go.Joins
set_option linter.unusedVariables false
theorem Try.infoVR : (Try.prog.info? 141).map (fun i => (i.zero, i.size, i.bytes)) = some (some (.agg #[.int .i64 0, .int .i64 0, .int .i64 0, .int .i64 0]), 4, 32) := by kernel_rfl
theorem Try.infoER : (Try.prog.info? 81).map (fun i => (i.zero, i.size, i.bytes)) = some (some (.agg #[.int .i64 0, .int .i64 0, .int .i64 0, .int .i64 0, .bool false, .int .i64 0, .bool false, .int .i64 0, .bool false, .int .i64 0, .bool false, .int .i64 0, .int .i64 0]), 13, 104) := by kernel_rfl
/-- Rows of two types lie apart. -/
theorem own_apart {w : World} {b1 b2 n1 n2 s1 s2 : Nat} {e1 e2 : TypeId} {v1 v2 : Value} {x1 x2 : List Value} (h1 : w.ownsRow b1 e1 s1 v1 n1 x1) (h2 : w.ownsRow b2 e2 s2 v2 n2 x2) (hne : e1 ≠ e2) {g : Nat} (h : v1.ownBlock = some g) : v2.ownBlock ≠ some g := by
  intro h'
  rcases h1.2 with ⟨rfl, _⟩ | ⟨g1, c1, cur1, rfl, _, hg1, _⟩
  · cases h
  · rcases h2.2 with ⟨rfl, _⟩ | ⟨g2, c2, cur2, rfl, _, hg2, _⟩
    · cases h'
    · have a1 : g1 = g := by simpa [Value.ownBlock] using h
      have a2 : g2 = g := by simpa [Value.ownBlock] using h'
      rw [a1] at hg1
      rw [a2, hg1] at hg2
      injection hg2 with hg2
      injection hg2 with _ ht _
      exact hne ht
theorem cell_list_at (w : World) (l : List Value) (t : TypeId) {n : Nat} (hn : w.heap.size = n) : ∀ (j : Nat) (u : Value), l[j]? = some u → (w.alloc (.cells l.toArray t)).cell? ((⟨n, 0, none⟩ : Addr).add j) = some u := by
  intro j u hj
  rw [addr_add0]
  subst hn
  have hb : (w.alloc (.cells l.toArray t)).heap[w.heap.size]? = some (.cells l.toArray t (0, 0)) := by
    show (w.heap.push _)[w.heap.size]? = _
    rw [Array.getElem?_push_size]
  unfold World.cell?
  rw [hb]
  simpa using hj
theorem row_alloc_at (w : World) (cs : Array Value) (t : TypeId) (f : Nat → Value) {n m : Nat} (hn : w.heap.size = n) (hm : cs.size = m) (h : ∀ i, i < cs.size → cs[i]? = some (f i)) : (w.alloc (.cells cs t)).rowIs n t m f := by
  subst hn hm
  exact World.rowIs_alloc w cs t f h
/-- The cells of a table under way. -/
def tbF (a b c : Int) (sv se sf : Value) : Nat → Value
  | 0 => .int .i64 a
  | 1 => .int .i64 b
  | 2 => .int .i64 c
  | 3 => sv
  | 4 => se
  | _ => sf
structure CvIn (w W wr : World) (t : TB) (fv sv se : Value) (k j : Nat) : Prop where
  out : wr.rowIs (w.heap.size + 1 + 1) 73 6 (tbF t.lv t.le t.lf sv se fv)
  vs : wr.ownsRow W.heap.size 141 4 sv k ((t.vs.take k).flatMap vrC)
  es : wr.ownsRow W.heap.size 81 13 se j ((t.es.take j).flatMap erC)
  below : Below (w.heap.size + 1 + 1) W wr
theorem CvIn.cell {w W wr : World} {t : TB} {fv sv se : Value} {k j : Nat} (h : CvIn w W wr t fv sv se k j) :
    wr.cell? ⟨w.heap.size + 1 + 1, 0, none⟩ = some (.int .i64 t.lv) ∧ wr.cell? ⟨w.heap.size + 1 + 1, 1, none⟩ = some (.int .i64 t.le) ∧ wr.cell? ⟨w.heap.size + 1 + 1, 2, none⟩ = some (.int .i64 t.lf) ∧ wr.cell? ⟨w.heap.size + 1 + 1, 3, none⟩ = some sv ∧ wr.cell? ⟨w.heap.size + 1 + 1, 4, none⟩ = some se ∧ wr.cell? ⟨w.heap.size + 1 + 1, 5, none⟩ = some fv :=
  ⟨World.rowIs.cell h.out (i := 0) (by decide), World.rowIs.cell h.out (i := 1) (by decide), World.rowIs.cell h.out (i := 2) (by decide), World.rowIs.cell h.out (i := 3) (by decide), World.rowIs.cell h.out (i := 4) (by decide), World.rowIs.cell h.out (i := 5) (by decide)⟩
theorem take_flat {α β : Type} {f : α → List β} {l : List α} {k : Nat} {x : α} (h : l[k]? = some x) : (l.take k).flatMap f ++ f x = (l.take (k + 1)).flatMap f := by
  have hk := (List.getElem?_eq_some_iff.1 h).1
  rw [List.take_succ_eq_append_getElem hk, List.flatMap_append]
  simp [(List.getElem?_eq_some_iff.1 h).2]
/-- What is answered of a table. -/
def CvPost (w : World) (t : TB) (vn en fn fc : Nat) (fa : Option Addr) (e : Ending) (w' : World) : Prop := ∃ a1 c1 a2 c2, e = .returned (.agg #[.int .i64 t.lv, .int .i64 t.le, .int .i64 t.lf, .slice a1 vn c1, .slice a2 en c2, .slice fa fn fc]) ∧ VRIn w' w'.heap.size a1 vn t.vs ∧ ERIn w' w'.heap.size a2 en t.es ∧ Below w.heap.size w w'
theorem own_form {w : World} {base n size : Nat} {e : TypeId} {v : Value} {xs : List Value} (h : w.ownsRow base e size v n xs) : ∃ a c, v = .slice a n c := by
  rcases ownsRow_forms h with ⟨h1, h0⟩ | ⟨g, cap, h1⟩
  · exact ⟨none, 0, by rw [h1, h0]⟩
  · exact ⟨_, _, h1⟩
/-- Behind a row more. -/
theorem CvIn.nextV {w W wr w2 w5 : World} {t : TB} {fv sv se : Value} {k j g cap : Nat} {v : VR} (h : CvIn w W wr t fv sv se k j) (hW : W.heap.size = w.heap.size + 1 + 1 + 1) (hv : t.vs[k]? = some v) (hb : Below wr.heap.size wr w2)
    (hown : w5.ownsRow W.heap.size 141 4 (.slice (some ⟨g, 0, none⟩) (k + 1) cap) (k + 1) ((t.vs.take k).flatMap vrC ++ vrC v)) (hgr : w2.grownBy w5 sv.ownBlock) :
    CvIn w W (w5.setCell ⟨w.heap.size + 1 + 1, 3, none⟩ (.slice (some ⟨g, 0, none⟩) (k + 1) cap)) t fv (.slice (some ⟨g, 0, none⟩) (k + 1) cap) se (k + 1) j := by
  have hown := hown
  rw [take_flat hv] at hown
  have hwr := World.rowIs.lt h.out
  have n1 : w.heap.size + 1 + 1 ∉ sv.ownBlock.toList := fun hm => by have := (h.vs.lt _ (Option.mem_toList.1 hm)).1; omega
  have n2 : ∀ q, se.ownBlock = some q → q ∉ sv.ownBlock.toList := fun q hq hm => own_apart h.es h.vs (by decide) hq (Option.mem_toList.1 hm)
  have t1 := Touch.of_below (F := []) hb
  have t2 := Touch.of_grown hgr
  have t3 : Touch [w.heap.size + 1 + 1] w5 (w5.setCell ⟨w.heap.size + 1 + 1, 3, none⟩ (.slice (some ⟨g, 0, none⟩) (k + 1) cap)) := (Touch.refl _ _).setCell (.inl (by simp)) _
  have hout := rowIs_touch (rowIs_touch h.out t1 (by simp)) t2 n1
  refine ⟨?_, ?_, ?_, ?_⟩
  · refine World.rowIs.congr (World.rowIs.set hout 3 _) (fun i hi => ?_)
    rcases i with _ | _ | _ | _ | _ | _ | i <;> first | rfl | omega
  · exact ownsRow_touch hown t3 (fun q hq => by cases hq; have := (hown.lt g rfl).1; simp; omega)
  · refine ownsRow_touch (ownsRow_touch (ownsRow_touch h.es t1 (fun _ _ => by simp)) t2 n2) t3 (fun q hq => ?_)
    have := (h.es.lt q hq).1; simp; omega
  · exact (((h.below.trans (hb.mono (by omega))).grown hgr (by have := hb.size; omega) (fun q hq => by have := (h.vs.lt q hq).1; omega))).setCell (by simp) _
theorem CvIn.nextE {w W wr w2 w5 : World} {t : TB} {fv sv se : Value} {k j g cap : Nat} {v : ER} (h : CvIn w W wr t fv sv se k j) (hW : W.heap.size = w.heap.size + 1 + 1 + 1) (hv : t.es[j]? = some v) (hb : Below wr.heap.size wr w2)
    (hown : w5.ownsRow W.heap.size 81 13 (.slice (some ⟨g, 0, none⟩) (j + 1) cap) (j + 1) ((t.es.take j).flatMap erC ++ erC v)) (hgr : w2.grownBy w5 se.ownBlock) :
    CvIn w W (w5.setCell ⟨w.heap.size + 1 + 1, 4, none⟩ (.slice (some ⟨g, 0, none⟩) (j + 1) cap)) t fv sv (.slice (some ⟨g, 0, none⟩) (j + 1) cap) k (j + 1) := by
  have hown := hown
  rw [take_flat hv] at hown
  have hwr := World.rowIs.lt h.out
  have n1 : w.heap.size + 1 + 1 ∉ se.ownBlock.toList := fun hm => by have := (h.es.lt _ (Option.mem_toList.1 hm)).1; omega
  have n2 : ∀ q, sv.ownBlock = some q → q ∉ se.ownBlock.toList := fun q hq hm => own_apart h.vs h.es (by decide) hq (Option.mem_toList.1 hm)
  have t1 := Touch.of_below (F := []) hb
  have t2 := Touch.of_grown hgr
  have t3 : Touch [w.heap.size + 1 + 1] w5 (w5.setCell ⟨w.heap.size + 1 + 1, 4, none⟩ (.slice (some ⟨g, 0, none⟩) (j + 1) cap)) := (Touch.refl _ _).setCell (.inl (by simp)) _
  have hout := rowIs_touch (rowIs_touch h.out t1 (by simp)) t2 n1
  refine ⟨?_, ?_, ?_, ?_⟩
  · refine World.rowIs.congr (World.rowIs.set hout 4 _) (fun i hi => ?_)
    rcases i with _ | _ | _ | _ | _ | _ | i <;> first | rfl | omega
  · refine ownsRow_touch (ownsRow_touch (ownsRow_touch h.vs t1 (fun _ _ => by simp)) t2 n2) t3 (fun q hq => ?_)
    have := (h.vs.lt q hq).1; simp; omega
  · exact ownsRow_touch hown t3 (fun q hq => by cases hq; have := (hown.lt g rfl).1; simp; omega)
  · exact (((h.below.trans (hb.mono (by omega))).grown hgr (by have := hb.size; omega) (fun q hq => by have := (h.es.lt q hq).1; omega))).setCell (by simp) _
end Go.Proofs.Ythopjhifepijiaa
