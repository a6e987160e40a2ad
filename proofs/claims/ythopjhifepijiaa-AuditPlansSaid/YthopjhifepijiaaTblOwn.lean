/- Rows that a call owns: as lists of cells. -/
import Derived.Test.YthopjhifepijiaaFew18
import Derived.OwnWalk
namespace Go.Proofs.Ythopjhifepijiaa
open Go.RowKit Go.Joins
set_option linter.unusedVariables false
def vrC (v : VR) : List Value := [.int .i64 v.id, .int .i64 v.x, .int .i64 v.y, .int .i64 v.f]
def erC (v : ER) : List Value := [.int .i64 v.id, .int .i64 v.a, .int .i64 v.b, .int .i64 v.n0, .bool v.m0, .int .i64 v.n1, .bool v.m1, .int .i64 v.p0, .bool v.q0, .int .i64 v.p1, .bool v.q1, .int .i64 v.f0, .int .i64 v.f1]
theorem flatMap_get {α β : Type} {f : α → List β} {n : Nat} (hf : ∀ x, (f x).length = n) : ∀ (l : List α) (i j : Nat) (x : α) (u : β), l[i]? = some x → (f x)[j]? = some u → (l.flatMap f)[i * n + j]? = some u
  | [], i, j, x, u, h, _ => by simp at h
  | y :: l, 0, j, x, u, h, hu => by
    simp at h
    subst h
    have hj : j < n := by rw [← hf y]; exact (List.getElem?_eq_some_iff.1 hu).1
    rw [List.flatMap_cons, List.getElem?_append_left (by rw [hf]; omega)]
    simpa using hu
  | y :: l, i + 1, j, x, u, h, hu => by
    have hj : j < n := by rw [← hf x]; exact (List.getElem?_eq_some_iff.1 hu).1
    rw [List.flatMap_cons, List.getElem?_append_right (by rw [hf, Nat.succ_mul]; omega), hf]
    have := flatMap_get hf l i j x u (by simpa using h) hu
    rw [show (i + 1) * n + j - n = i * n + j by rw [Nat.succ_mul]; omega]
    exact this
theorem addr_add0 (g j : Nat) : (⟨g, 0, none⟩ : Addr).add j = ⟨g, j, none⟩ := by unfold Addr.add; split <;> simp_all
theorem vrIn_of_own {w : World} {base n c : Nat} {t : TypeId} {a : Option Addr} {l : List VR} (h : w.ownsRow base t 4 (.slice a n c) n (l.flatMap vrC)) (hn : n = l.length) : VRIn w w.heap.size a n l := by
  refine ⟨hn, ?_⟩
  rcases Nat.eq_zero_or_pos n with h0 | h0
  · exact .inl h0
  · obtain ⟨g, cap, e⟩ := ownsRow_form h h0
    injection e with e1 e2 e3
    subst e1
    refine .inr ⟨g, 0, rfl, (h.lt g rfl).2, fun i v hv => ?_⟩
    have hc := fun j u (hu : (vrC v)[j]? = some u) => (addr_add0 g (i * 4 + j)) ▸ h.cells (g := g) rfl (j := i * 4 + j) (u := u) (flatMap_get (n := 4) (fun _ => rfl) l i j v u hv hu)
    simp only [Nat.zero_add]
    exact ⟨hc 0 _ rfl, hc 1 _ rfl, hc 2 _ rfl, hc 3 _ rfl⟩
theorem erIn_of_own {w : World} {base n c : Nat} {t : TypeId} {a : Option Addr} {l : List ER} (h : w.ownsRow base t 13 (.slice a n c) n (l.flatMap erC)) (hn : n = l.length) : ERIn w w.heap.size a n l := by
  refine ⟨hn, ?_⟩
  rcases Nat.eq_zero_or_pos n with h0 | h0
  · exact .inl h0
  · obtain ⟨g, cap, e⟩ := ownsRow_form h h0
    injection e with e1 e2 e3
    subst e1
    refine .inr ⟨g, 0, rfl, (h.lt g rfl).2, fun i v hv => ?_⟩
    have hc := fun j u (hu : (erC v)[j]? = some u) => (addr_add0 g (i * 13 + j)) ▸ h.cells (g := g) rfl (j := i * 13 + j) (u := u) (flatMap_get (n := 13) (fun _ => rfl) l i j v u hv hu)
    simp only [Nat.zero_add]
    exact ⟨hc 0 _ rfl, hc 1 _ rfl, hc 2 _ rfl, hc 3 _ rfl, hc 4 _ rfl, hc 5 _ rfl, hc 6 _ rfl, hc 7 _ rfl, hc 8 _ rfl, hc 9 _ rfl, hc 10 _ rfl, hc 11 _ rfl, hc 12 _ rfl⟩
end Go.Proofs.Ythopjhifepijiaa
