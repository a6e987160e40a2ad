/- A slice of strings among the arguments. -/
import Derived.Test.YtfnfapgmicmegaaRedo1
import Derived.SliceStrings
import Derived.Deep.Slices
import Derived.OpenShut
import Derived.ChangeSame
import Derived.Carry
namespace Go.Proofs.Ytfnfapgmicmegaa
open Go.ChangeShapes Go.WideShapes Go.ChangeAt Go.RowKit Go.Deep Go.Joins
set_option linter.unusedVariables false

/-- The strings of an argument. -/
structure StrArg (W : World) (a : Option Addr) (n : Nat) (l : List ByteArray) : Prop where
  len : n = l.length
  max : n ≤ 9223372036854775807
  sizes : ∀ s ∈ l, s.size ≤ 9223372036854775807
  lies : StrsAt W a l
variable {H : Type} {enc : TypeId × Value → H} {W : World}
set_option maxRecDepth 100000 in
theorem open_strs {v : Value} {d : DataW H} {p : List MemPlace} (hv : Value.okWide Try.prog W .any 0 22 v) (h : DataW.Trod enc Try.prog W 0 (fun _ => true) true 22 v d p) :
    ∃ a n c l, v = .slice a n c ∧ StrArg W a n l := by
  have mx : maxLen = 9223372036854775807 := rfl
  obtain ⟨a0, len0, cap0, rfl⟩ := okWide_slice Try.underlying22 hv
  obtain ⟨fuel, hf⟩ := h
  rcases open_strings Try.underlying22 Try.underlying9 (by kernel_rfl) hf with ⟨e, _⟩ | ⟨a, len, cap, ss, e, _, hl, hm, hss, _, hi, hz⟩
  · simp [Value.cells] at e
    obtain ⟨rfl, rfl, rfl⟩ := e
    exact ⟨_, _, _, [], rfl, rfl, by omega, by simp, .inl rfl⟩
  · simp [Value.cells] at e
    obtain ⟨rfl, rfl, rfl⟩ := e
    simp only [if_true] at hss
    by_cases h0 : len0 = 0
    · subst h0; exact ⟨_, _, _, [], rfl, rfl, by omega, by simp, .inl rfl⟩
    · obtain ⟨lb, off, sp⟩ := a
      have hs : sp = none := by
        have hc := hi 0 (by omega)
        simpa [Addr.add] using World.cell?_spot hc
      subst hs
      refine ⟨_, _, _, ss.take len0, rfl, by rw [List.length_take]; omega, by omega, fun s hs => by have := hz s (List.mem_of_mem_take hs); omega, .inr ⟨lb, off, rfl, fun j x hx => ?_⟩⟩
      have hj : j < len0 := by
        have := (List.getElem?_eq_some_iff.1 hx).1
        rw [List.length_take] at this; omega
      rw [List.getElem?_take_of_lt hj] at hx
      have ea : (⟨lb, off, none⟩ : Addr).add j = ⟨lb, off + j, none⟩ := by unfold Addr.add; split <;> simp_all
      have hc := hi j (by omega)
      rw [ea] at hc
      rw [hc]
      simp [List.getD, hx]

end Go.Proofs.Ytfnfapgmicmegaa
