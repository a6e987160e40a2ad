/- The acts of layer 9, opened out of the argument's reading. -/
import Derived.Test.YtfnfapgmicmegaaRActs
import Derived.Test.YtfnfapgmicmegaaStructs
import Derived.ProofKit
namespace Go.Proofs.Ytfnfapgmicmegaa
open Go.ChangeShapes Go.WideShapes Go.ChangeAt Go.RowKit Go.Deep Go.Joins
set_option linter.unusedVariables false

theorem bd_i64 {x : Int} (h : (Lit.int .i64 x).wf = true) : -9223372036854775808 ≤ x ∧ x ≤ 9223372036854775807 := by
  simp [Lit.wf, IntKind.min, IntKind.max, IntKind.signed, IntKind.bits] at h
  omega
theorem bd_u8 {x : Int} (h : (Lit.int .u8 x).wf = true) : 0 ≤ x ∧ x ≤ 255 := by
  simp [Lit.wf, IntKind.min, IntKind.max, IntKind.signed, IntKind.bits] at h
  omega

section
variable {H : Type} {enc : TypeId × Value → H} {W : World}
/-- A slice of bools. -/
theorem open_keep {n : Nat} {v : Value} {y : DataW H × List MemPlace} (h : DataW.trod enc Try.prog W 0 (fun _ => true) true n 49 [v] = some y) :
    ∃ a kn kc kf, v = .slice a kn kc ∧ kn ≤ 9223372036854775807 ∧ KeepAt W a kn kf ∧ ∀ b off, a = some ⟨b, off, none⟩ → 0 < kn → b < W.heap.size := by
  rcases open_slice1 Try.underlying49 (by kernel_rfl) h with ⟨e, _⟩ | ⟨a, len, cap, m, n', V, D, Pl, e, _, hl, hm, hmm, _, hc⟩
  · simp at e; exact ⟨none, 0, 0, fun _ => false, e, by omega, .inl rfl, fun _ _ h => by cases h⟩
  · simp at e
    simp only [if_true] at hmm
    subst hmm
    have hm' : m ≤ 9223372036854775807 := hm
    by_cases h0 : len = 0
    · exact ⟨some a, len, m, fun _ => false, e, by omega, .inl h0, fun _ _ _ h => by omega⟩
    · obtain ⟨b, off, sp⟩ := a
      have hs : sp = none := by simpa [Addr.add] using World.cell?_spot (hc 0 (by omega)).1
      subst hs
      have hV : ∀ i, i < len → ∃ x, V i = .bool x := fun i hi => by
        obtain ⟨x, hx, _⟩ := DataW.trod_bool Try.underlying4 (hc i (by omega)).2
        simp at hx; exact ⟨x, hx⟩
      refine ⟨_, len, m, fun i => match V i with | .bool x => x | _ => false, e, by omega, .inr ⟨b, off, rfl, fun i hi => ?_⟩, fun b' off' hb' _ => ?_⟩
      · obtain ⟨x, hx⟩ := hV i hi
        have := (hc i (by omega)).1
        rw [addr_add] at this
        rw [this]
        simp only [hx]
      · cases hb'
        have := (hc 0 (by omega)).1
        rw [addr_add] at this
        exact cell_lt this

/-- One act. -/
theorem open_act {lb o n : Nat} {v0 v1 v2 v3 v4 v5 : Value} {y0 y1 y2 y3 y4 y5 : DataW H × List MemPlace}
    (h0 : W.cell? ⟨lb, o, none⟩ = some v0) (h1 : W.cell? ⟨lb, o + 1, none⟩ = some v1) (h2 : W.cell? ⟨lb, o + 2, none⟩ = some v2) (h3 : W.cell? ⟨lb, o + 3, none⟩ = some v3) (h4 : W.cell? ⟨lb, o + 4, none⟩ = some v4) (h5 : W.cell? ⟨lb, o + 5, none⟩ = some v5)
    (g0 : DataW.trod enc Try.prog W 0 (fun _ => true) true n 5 [v0] = some y0) (g1 : DataW.trod enc Try.prog W 0 (fun _ => true) true n 5 [v1] = some y1) (g2 : DataW.trod enc Try.prog W 0 (fun _ => true) true n 3 [v2] = some y2)
    (g3 : DataW.trod enc Try.prog W 0 (fun _ => true) true n 49 [v3] = some y3) (g4 : DataW.trod enc Try.prog W 0 (fun _ => true) true n 3 [v4] = some y4) (g5 : DataW.trod enc Try.prog W 0 (fun _ => true) true n 3 [v5] = some y5) :
    ∃ x, ActAt W W.heap.size ⟨lb, o, none⟩ x := by
  obtain ⟨a0, e0, _, w0⟩ := DataW.trod_int Try.underlying5 g0
  obtain ⟨a1, e1, _, w1⟩ := DataW.trod_int Try.underlying5 g1
  obtain ⟨a2, e2, _, w2⟩ := DataW.trod_int Try.underlying3 g2
  obtain ⟨a4, e4, _, w4⟩ := DataW.trod_int Try.underlying3 g4
  obtain ⟨a5, e5, _, w5⟩ := DataW.trod_int Try.underlying3 g5
  obtain ⟨ka, kn, kc, kf, rfl, k1, k2, k3⟩ := open_keep g3
  simp only [List.cons.injEq, and_true] at e0 e1 e2 e4 e5
  subst e0 e1 e2 e4 e5
  exact ⟨⟨a0, a1, a2, ka, kn, kc, kf, a4, a5⟩, h0, by rw [addr_add]; exact h1, by rw [addr_add]; exact h2, by rw [addr_add]; exact h3, by rw [addr_add]; exact h4, by rw [addr_add]; exact h5, k2, k3,
    ⟨bd_u8 w0, bd_u8 w1, bd_i64 w2, k1, bd_i64 w4, bd_i64 w5⟩⟩

theorem list_of {α : Type} : ∀ (n : Nat) (P : Nat → α → Prop), (∀ i, i < n → ∃ x, P i x) → ∃ l : List α, l.length = n ∧ ∀ (i : Nat) (x : α), l[i]? = some x → P i x
  | 0, P, _ => ⟨[], rfl, fun i x h => by simp at h⟩
  | n + 1, P, h => by
    obtain ⟨l, hl, hP⟩ := list_of n P (fun i hi => h i (by omega))
    obtain ⟨x, hx⟩ := h n (by omega)
    refine ⟨l ++ [x], by simp [hl], fun i y hy => ?_⟩
    by_cases hi : i < n
    · rw [List.getElem?_append_left (by omega)] at hy; exact hP i y hy
    · have hlt := (List.getElem?_eq_some_iff.1 hy).1
      simp [hl] at hlt
      obtain rfl : i = n := by omega
      rw [List.getElem?_append_right (by omega), hl] at hy
      simp at hy; subst hy; exact hx

set_option maxRecDepth 100000 in
/-- The argument. -/
theorem open_acts {v : Value} {d : DataW H} {p : List MemPlace} (hv : Value.okWide Try.prog W .any 0 47 v) (h : DataW.Trod enc Try.prog W 0 (fun _ => true) true 47 v d p) :
    ∃ a n c l, v = .slice a n c ∧ ActsIn W W.heap.size a n l := by
  obtain ⟨a0, len0, cap0, rfl⟩ := okWide_slice Try.underlying47 hv
  obtain ⟨fuel, hf⟩ := h
  rcases open_slice_fields Try.underlying47 Try.underlying51 (by kernel_rfl) (by kernel_rfl) hf with ⟨e, _⟩ | ⟨a, len, cap, m, D, Pl, e, _, hl, hm, hmm, _, hi⟩
  · simp [Value.cells] at e
    obtain ⟨rfl, rfl, rfl⟩ := e
    exact ⟨_, _, _, [], rfl, rfl, by omega, .inl rfl⟩
  · simp [Value.cells] at e
    obtain ⟨rfl, rfl, rfl⟩ := e
    simp only [if_true] at hmm
    subst hmm
    have hm' : m ≤ 9223372036854775807 := hm
    by_cases h0 : len0 = 0
    · subst h0; exact ⟨_, _, _, [], rfl, rfl, by omega, .inl rfl⟩
    · obtain ⟨lb, off, sp⟩ := a
      have hs : sp = none := by
        obtain ⟨ys, n, _, _, _, hf⟩ := hi 0 (by omega)
        obtain ⟨v, y, hc, _⟩ := hf 0 _ rfl
        simpa [Addr.add] using World.cell?_spot hc
      subst hs
      have hlb : lb < W.heap.size := by
        obtain ⟨ys, n, _, _, _, hf⟩ := hi 0 (by omega)
        obtain ⟨v, y, hc, _⟩ := hf 0 _ rfl
        rw [addr_add] at hc
        exact cell_lt hc
      obtain ⟨l, hl', hP⟩ := list_of len0 (fun i x => ActAt W W.heap.size ⟨lb, off + i * 6, none⟩ x) (fun i hlt => by
        obtain ⟨ys, n, _, _, _, hf⟩ := hi i (by omega)
        obtain ⟨v0, y0, c0, _, g0⟩ := hf 0 _ rfl
        obtain ⟨v1, y1, c1, _, g1⟩ := hf 1 _ rfl
        obtain ⟨v2, y2, c2, _, g2⟩ := hf 2 _ rfl
        obtain ⟨v3, y3, c3, _, g3⟩ := hf 3 _ rfl
        obtain ⟨v4, y4, c4, _, g4⟩ := hf 4 _ rfl
        obtain ⟨v5, y5, c5, _, g5⟩ := hf 5 _ rfl
        rw [addr_add] at c0 c1 c2 c3 c4 c5
        exact open_act (o := off + i * 6) c0 c1 c2 c3 c4 c5 g0 g1 g2 g3 g4 g5)
      exact ⟨_, _, _, l, rfl, hl'.symm, by omega, .inr ⟨lb, off, rfl, hlb, hP⟩⟩
end

end Go.Proofs.Ytfnfapgmicmegaa
