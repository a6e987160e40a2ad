/- The walk of few of layer 18. -/
import Derived.Test.YthopjhifepijiaaSame18
namespace Go.Proofs.Ythopjhifepijiaa
open Go.RowKit
set_option linter.unusedVariables false
set_option maxRecDepth 100000 in
theorem few18_any (w : World) (a b c : Int) (va ea fa : Option Addr) (vn en fn vc ec fc : Nat) :
    Calls Try.prog 31 #[.agg #[.int .i64 a, .int .i64 b, .int .i64 c, .slice va vn vc, .slice ea en ec, .slice fa fn fc]] w fun e w' => e = .returned (.bool (decide (vn ≤ 24 ∧ en ≤ 24 ∧ fn ≤ 100))) ∧ Below w.heap.size w w' := by
  by_cases h1 : vn ≤ 24
  · by_cases h2 : en ≤ 24
    · by_cases h3 : fn ≤ 100
      · rw [decide_eq_true ⟨h1, h2, h3⟩]
        have d3 := decide_eq_true (show (fn : Int) ≤ 100 by omega)
        go_enter Try.func31, Try.ntmps31
        go_wp2_with fail
        go_ret
        exact ⟨rfl, below_alloc (Below.refl _ _)⟩
      · rw [decide_eq_false (fun h => h3 h.2.2)]
        have d3 := decide_eq_false (show ¬ (fn : Int) ≤ 100 by omega)
        go_enter Try.func31, Try.ntmps31
        go_wp2_with fail
        go_ret
        exact ⟨rfl, below_alloc (Below.refl _ _)⟩
    · rw [decide_eq_false (fun h => h2 h.2.1)]
      go_enter Try.func31, Try.ntmps31
      go_wp2_with fail
      go_ret
      exact ⟨rfl, below_alloc (Below.refl _ _)⟩
  · rw [decide_eq_false (fun h => h1 h.1)]
    go_enter Try.func31, Try.ntmps31
    go_wp2_with fail
    go_ret
    exact ⟨rfl, below_alloc (Below.refl _ _)⟩
end Go.Proofs.Ythopjhifepijiaa
