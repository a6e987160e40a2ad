/- The acts of layer 12, opened out of the argument's reading. -/
import Derived.Test.YteijagojagfecaaSlotActs
import Derived.Test.YteijagojagfecaaSlotPacksWalk
import Derived.Test.YteijagojagfecaaStructs
import Derived.ProofKit
namespace Go.Proofs.Yteijagojagfecaa
open Go.ChangeShapes Go.WideShapes Go.ChangeAt Go.RowKit Go.Deep Go.Joins
set_option linter.unusedVariables false

theorem bdS_i64 {x : Int} (h : (Lit.int .i64 x).wf = true) : -9223372036854775808 ≤ x ∧ x ≤ 9223372036854775807 := by
  simp [Lit.wf, IntKind.min, IntKind.max, IntKind.signed, IntKind.bits] at h
  omega
theorem bdS_u8 {x : Int} (h : (Lit.int .u8 x).wf = true) : 0 ≤ x ∧ x ≤ 255 := by
  simp [Lit.wf, IntKind.min, IntKind.max, IntKind.signed, IntKind.bits] at h
  omega
section
variable {H : Type} {enc : TypeId × Value → H} {W : World}
set_option maxRecDepth 100000 in
theorem open_actsS {v : Value} {d : DataW H} {p : List MemPlace} (hv : Value.okWide Try.prog W .any 0 69 v) (h : DataW.Trod enc Try.prog W 0 (fun _ => true) true 69 v d p) :
    ∃ a n c l, v = .slice a n c ∧ ActsS W a n l := by
  have mx : maxLen = 9223372036854775807 := rfl
  obtain ⟨a0, len0, cap0, rfl⟩ := okWide_slice Try.underlying69 hv
  obtain ⟨fuel, hf⟩ := h
  rcases open_slice_fields Try.underlying69 Try.underlying73 (by kernel_rfl) (by kernel_rfl) hf with ⟨e, _⟩ | ⟨a, len, cap, m, D, Pl, e, _, hl, hm, hmm, _, hi⟩
  · simp [Value.cells] at e
    obtain ⟨rfl, rfl, rfl⟩ := e
    exact ⟨_, _, _, [], rfl, rfl, by omega, by simp, .inl rfl⟩
  · simp [Value.cells] at e
    obtain ⟨rfl, rfl, rfl⟩ := e
    simp only [if_true] at hmm
    subst hmm
    by_cases h0 : len0 = 0
    · subst h0; exact ⟨_, _, _, [], rfl, rfl, by omega, by simp, .inl rfl⟩
    · obtain ⟨lb, off, sp⟩ := a
      have hs : sp = none := by
        obtain ⟨ys, n, _, _, _, hf⟩ := hi 0 (by omega)
        obtain ⟨v, y, hc, _⟩ := hf 0 _ rfl
        simpa [Addr.add] using World.cell?_spot hc
      subst hs
      obtain ⟨l, hl', hP⟩ := list_of12 len0 (fun i (x : ActS) => (W.cell? ⟨lb, off + i * 3, none⟩ = some (.int .u8 x.b1) ∧ W.cell? ⟨lb, off + i * 3 + 1, none⟩ = some (.int .i64 x.i) ∧ W.cell? ⟨lb, off + i * 3 + 2, none⟩ = some (.string x.s)) ∧ ActSOk x) (fun i hlt => by
        obtain ⟨ys, n, _, _, _, hf⟩ := hi i (by omega)
        obtain ⟨v0, y0, c0, _, g0⟩ := hf 0 _ rfl
        obtain ⟨v1, y1, c1, _, g1⟩ := hf 1 _ rfl
        obtain ⟨v2, y2, c2, _, g2⟩ := hf 2 _ rfl
        have ea : ∀ j : Nat, (⟨lb, off, none⟩ : Addr).add j = ⟨lb, off + j, none⟩ := fun j => by unfold Addr.add; split <;> simp_all
        rw [ea] at c0 c1 c2
        obtain ⟨a0, e0, _, w0⟩ := DataW.trod_int Try.underlying5 g0
        obtain ⟨a1, e1, _, w1⟩ := DataW.trod_int Try.underlying3 g1
        obtain ⟨a2, e2, _, w2⟩ := DataW.trod_string Try.underlying9 g2
        simp only [List.cons.injEq, and_true] at e0 e1 e2
        subst e0 e1 e2
        exact ⟨⟨a0, a1, a2⟩, ⟨c0, c1, c2⟩, bdS_u8 w0, bdS_i64 w1, w2⟩)
      exact ⟨_, _, _, l, rfl, hl'.symm, by omega, fun x hx => by
        obtain ⟨i, hi⟩ := List.mem_iff_getElem?.1 hx
        exact (hP i x hi).2, .inr ⟨lb, off, rfl, fun i x hx => (hP i x hx).1⟩⟩
end

end Go.Proofs.Yteijagojagfecaa
