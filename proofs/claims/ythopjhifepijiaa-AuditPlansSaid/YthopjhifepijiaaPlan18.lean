/- A table's plan under way. -/
import Derived.Test.YthopjhifepijiaaConv18b
namespace Go.Proofs.Ythopjhifepijiaa
open Go.RowKit Go.Joins
set_option linter.unusedVariables false
theorem Try.infoVx : (Try.prog.info? 53).map (fun i => (i.zero, i.size, i.bytes)) = some (some (.agg #[.int .i64 0, .int .i64 0, .int .i64 0]), 3, 24) := by kernel_rfl
theorem Try.infoEd : (Try.prog.info? 63).map (fun i => (i.zero, i.size, i.bytes)) = some (some (.agg #[.int .i64 0, .int .i64 0, .int .i64 0]), 3, 24) := by kernel_rfl
def vxC (v : VR) : List Value := [.int .i64 v.id, .int .i64 v.x, .int .i64 v.y]
def edC (v : ER) : List Value := [.int .i64 v.id, .int .i64 v.a, .int .i64 v.b]
def vxOf (v : VR) : Vx := ⟨v.id, ⟨v.x, v.y⟩⟩
def edOf (v : ER) : Ed := ⟨v.id, v.a, v.b⟩
theorem vsIn_of_own {w : World} {base n c : Nat} {t : TypeId} {a : Option Addr} {l : List VR} (h : w.ownsRow base t 3 (.slice a n c) n (l.flatMap vxC)) (hn : n = l.length) : VsIn w w.heap.size a n (l.map vxOf) := by
  refine ⟨by rw [List.length_map]; exact hn, ?_⟩
  rcases Nat.eq_zero_or_pos n with h0 | h0
  · exact .inl h0
  · obtain ⟨g, cap, e⟩ := ownsRow_form h h0
    injection e with e1 e2 e3
    subst e1
    refine .inr ⟨g, 0, rfl, (h.lt g rfl).2, fun i v' hv' => ?_⟩
    rw [List.getElem?_map] at hv'
    obtain ⟨v, hv, rfl⟩ := Option.map_eq_some_iff.1 hv'
    have hc := fun j u (hu : (vxC v)[j]? = some u) => (addr_add0 g (i * 3 + j)) ▸ h.cells (g := g) rfl (j := i * 3 + j) (u := u) (flatMap_get (n := 3) (fun _ => rfl) l i j v u hv hu)
    simp only [Nat.zero_add]
    exact ⟨hc 0 _ rfl, hc 1 _ rfl, hc 2 _ rfl⟩
theorem esIn_of_own {w : World} {base n c : Nat} {t : TypeId} {a : Option Addr} {l : List ER} (h : w.ownsRow base t 3 (.slice a n c) n (l.flatMap edC)) (hn : n = l.length) : EsIn w w.heap.size a n (l.map edOf) := by
  refine ⟨by rw [List.length_map]; exact hn, ?_⟩
  rcases Nat.eq_zero_or_pos n with h0 | h0
  · exact .inl h0
  · obtain ⟨g, cap, e⟩ := ownsRow_form h h0
    injection e with e1 e2 e3
    subst e1
    refine .inr ⟨g, 0, rfl, (h.lt g rfl).2, fun i v' hv' => ?_⟩
    rw [List.getElem?_map] at hv'
    obtain ⟨v, hv, rfl⟩ := Option.map_eq_some_iff.1 hv'
    have hc := fun j u (hu : (edC v)[j]? = some u) => (addr_add0 g (i * 3 + j)) ▸ h.cells (g := g) rfl (j := i * 3 + j) (u := u) (flatMap_get (n := 3) (fun _ => rfl) l i j v u hv hu)
    simp only [Nat.zero_add]
    exact ⟨hc 0 _ rfl, hc 1 _ rfl, hc 2 _ rfl⟩
def pvF (sv se : Value) : Nat → Value
  | 0 => sv
  | _ => se
structure PvIn (T : TypeId) (w W wr : World) (vs : List VR) (es : List ER) (sv se : Value) (k j : Nat) : Prop where
  out : wr.rowIs (w.heap.size + 1 + 1) T 2 (pvF sv se)
  vs : wr.ownsRow W.heap.size 53 3 sv k ((vs.take k).flatMap vxC)
  es : wr.ownsRow W.heap.size 63 3 se j ((es.take j).flatMap edC)
  below : Below (w.heap.size + 1 + 1) W wr
theorem PvIn.cell {T : TypeId} {w W wr : World} {vs : List VR} {es : List ER} {sv se : Value} {k j : Nat} (h : PvIn T w W wr vs es sv se k j) :
    wr.cell? ⟨w.heap.size + 1 + 1, 0, none⟩ = some sv ∧ wr.cell? ⟨w.heap.size + 1 + 1, 1, none⟩ = some se :=
  ⟨World.rowIs.cell h.out (i := 0) (by decide), World.rowIs.cell h.out (i := 1) (by decide)⟩
theorem PvIn.nextV {T : TypeId} {w W wr w2 w5 : World} {vs : List VR} {es : List ER} {sv se : Value} {k j g cap : Nat} {v : VR} (h : PvIn T w W wr vs es sv se k j) (hW : W.heap.size = w.heap.size + 1 + 1 + 1) (hv : vs[k]? = some v) (hb : Below wr.heap.size wr w2)
    (hown : w5.ownsRow W.heap.size 53 3 (.slice (some ⟨g, 0, none⟩) (k + 1) cap) (k + 1) ((vs.take k).flatMap vxC ++ vxC v)) (hgr : w2.grownBy w5 sv.ownBlock) :
    PvIn T w W (w5.setCell ⟨w.heap.size + 1 + 1, 0, none⟩ (.slice (some ⟨g, 0, none⟩) (k + 1) cap)) vs es (.slice (some ⟨g, 0, none⟩) (k + 1) cap) se (k + 1) j := by
  have hown := hown
  rw [take_flat hv] at hown
  have hwr := World.rowIs.lt h.out
  have n1 : w.heap.size + 1 + 1 ∉ sv.ownBlock.toList := fun hm => by have := (h.vs.lt _ (Option.mem_toList.1 hm)).1; omega
  have n2 : ∀ q, se.ownBlock = some q → q ∉ sv.ownBlock.toList := fun q hq hm => own_apart h.es h.vs (by decide) hq (Option.mem_toList.1 hm)
  have t1 := Touch.of_below (F := []) hb
  have t2 := Touch.of_grown hgr
  have t3 : Touch [w.heap.size + 1 + 1] w5 (w5.setCell ⟨w.heap.size + 1 + 1, 0, none⟩ (.slice (some ⟨g, 0, none⟩) (k + 1) cap)) := (Touch.refl _ _).setCell (.inl (by simp)) _
  have hout := rowIs_touch (rowIs_touch h.out t1 (by simp)) t2 n1
  refine ⟨?_, ?_, ?_, ?_⟩
  · refine World.rowIs.congr (World.rowIs.set hout 0 _) (fun i hi => ?_)
    rcases i with _ | _ | i <;> first | rfl | omega
  · exact ownsRow_touch hown t3 (fun q hq => by cases hq; have := (hown.lt g rfl).1; simp; omega)
  · refine ownsRow_touch (ownsRow_touch (ownsRow_touch h.es t1 (fun _ _ => by simp)) t2 n2) t3 (fun q hq => ?_)
    have := (h.es.lt q hq).1; simp; omega
  · exact (((h.below.trans (hb.mono (by omega))).grown hgr (by have := hb.size; omega) (fun q hq => by have := (h.vs.lt q hq).1; omega))).setCell (by simp) _
theorem PvIn.nextE {T : TypeId} {w W wr w2 w5 : World} {vs : List VR} {es : List ER} {sv se : Value} {k j g cap : Nat} {v : ER} (h : PvIn T w W wr vs es sv se k j) (hW : W.heap.size = w.heap.size + 1 + 1 + 1) (hv : es[j]? = some v) (hb : Below wr.heap.size wr w2)
    (hown : w5.ownsRow W.heap.size 63 3 (.slice (some ⟨g, 0, none⟩) (j + 1) cap) (j + 1) ((es.take j).flatMap edC ++ edC v)) (hgr : w2.grownBy w5 se.ownBlock) :
    PvIn T w W (w5.setCell ⟨w.heap.size + 1 + 1, 1, none⟩ (.slice (some ⟨g, 0, none⟩) (j + 1) cap)) vs es sv (.slice (some ⟨g, 0, none⟩) (j + 1) cap) k (j + 1) := by
  have hown := hown
  rw [take_flat hv] at hown
  have hwr := World.rowIs.lt h.out
  have n1 : w.heap.size + 1 + 1 ∉ se.ownBlock.toList := fun hm => by have := (h.es.lt _ (Option.mem_toList.1 hm)).1; omega
  have n2 : ∀ q, sv.ownBlock = some q → q ∉ se.ownBlock.toList := fun q hq hm => own_apart h.vs h.es (by decide) hq (Option.mem_toList.1 hm)
  have t1 := Touch.of_below (F := []) hb
  have t2 := Touch.of_grown hgr
  have t3 : Touch [w.heap.size + 1 + 1] w5 (w5.setCell ⟨w.heap.size + 1 + 1, 1, none⟩ (.slice (some ⟨g, 0, none⟩) (j + 1) cap)) := (Touch.refl _ _).setCell (.inl (by simp)) _
  have hout := rowIs_touch (rowIs_touch h.out t1 (by simp)) t2 n1
  refine ⟨?_, ?_, ?_, ?_⟩
  · refine World.rowIs.congr (World.rowIs.set hout 1 _) (fun i hi => ?_)
    rcases i with _ | _ | i <;> first | rfl | omega
  · refine ownsRow_touch (ownsRow_touch (ownsRow_touch h.vs t1 (fun _ _ => by simp)) t2 n2) t3 (fun q hq => ?_)
    have := (h.vs.lt q hq).1; simp; omega
  · exact ownsRow_touch hown t3 (fun q hq => by cases hq; have := (hown.lt g rfl).1; simp; omega)
  · exact (((h.below.trans (hb.mono (by omega))).grown hgr (by have := hb.size; omega) (fun q hq => by have := (h.es.lt q hq).1; omega))).setCell (by simp) _
/-- What is answered. -/
def PvPost (w : World) (vs : List VR) (es : List ER) (vn en : Nat) (e : Ending) (w' : World) : Prop := ∃ a1 c1 a2 c2, e = .returned (.agg #[.slice a1 vn c1, .slice a2 en c2]) ∧ VsIn w' w'.heap.size a1 vn (vs.map vxOf) ∧ EsIn w' w'.heap.size a2 en (es.map edOf) ∧ Below w.heap.size w w'
theorem PvIn.finish {T : TypeId} {w W wr w5 : World} {vs : List VR} {es : List ER} {vn en c1 c2 : Nat} {a1 a2 : Option Addr} (h : PvIn T w W wr vs es (.slice a1 vn c1) (.slice a2 en c2) vn en) (hv : vn = vs.length) (he : en = es.length) (hw : Below w.heap.size w W) (hW : W.heap.size = w.heap.size + 1 + 1 + 1) (t : Touch [w.heap.size + 1] wr w5) :
    PvPost w vs es vn en (.returned (.agg #[.slice a1 vn c1, .slice a2 en c2])) w5 := by
  have h1 := ownsRow_touch h.vs t (fun q hq => by have := (h.vs.lt q hq).1; simp; omega)
  have h2 := ownsRow_touch h.es t (fun q hq => by have := (h.es.lt q hq).1; simp; omega)
  rw [List.take_of_length_le (by omega)] at h1 h2
  refine ⟨a1, c1, a2, c2, rfl, vsIn_of_own h1 hv, esIn_of_own h2 he, ?_⟩
  exact (hw.trans (h.below.mono (by omega))).trans (t.below (by have := hw.size; have := h.below.size; omega) (fun b hb => by simp at hb; omega))
end Go.Proofs.Ythopjhifepijiaa
