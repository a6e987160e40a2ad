/- The walks of package geom: In, Less, sign, turn. -/
import Derived.Test.YthopjhifepijiaaRows
import Derived.Test.YthopjhifepijiaaKit
import Derived.Test.YthopjhifepijiaaGeoPlain
namespace Go.Proofs.Ythopjhifepijiaa
open Go.RowKit
set_option linter.unusedVariables false

set_option maxRecDepth 100000 in
theorem in_any (p : Pt) (w : World) : Calls Try.prog 39 #[.agg #[.int .i64 p.x, .int .i64 p.y]] w fun e w' => e = .returned (.bool (inB p)) ∧ Below w.heap.size w w' := by
  obtain ⟨v, hv⟩ : ∃ v, v = inB p := ⟨_, rfl⟩
  rw [← hv]
  have hc : (v = true ∧ -268435456 ≤ p.x ∧ p.x ≤ 268435456 ∧ -268435456 ≤ p.y ∧ p.y ≤ 268435456) ∨ (v = false ∧ ¬ -268435456 ≤ p.x) ∨ (v = false ∧ -268435456 ≤ p.x ∧ ¬ p.x ≤ 268435456) ∨ (v = false ∧ -268435456 ≤ p.x ∧ p.x ≤ 268435456 ∧ ¬ -268435456 ≤ p.y) ∨
      (v = false ∧ -268435456 ≤ p.x ∧ p.x ≤ 268435456 ∧ -268435456 ≤ p.y ∧ ¬ p.y ≤ 268435456) := by
    cases v
    · have := hv.symm
      rw [Bool.eq_false_iff, ne_eq, inB_iff] at this
      simp only [true_and, Bool.false_eq_true, false_and, false_or]
      omega
    · exact .inl ⟨rfl, inB_iff.1 hv.symm⟩
  clear hv
  rcases hc with ⟨rfl, h1, h2, h3, h4⟩ | ⟨rfl, h1⟩ | ⟨rfl, h1, h2⟩ | ⟨rfl, h1, h2, h3⟩ | ⟨rfl, h1, h2, h3, h4⟩
  all_goals
    go_enter Try.func39, Try.ntmps39
    go_wp2_with fail
    go_ret
    exact ⟨rfl, below_alloc (Below.refl _ _)⟩
set_option maxRecDepth 100000 in
theorem less_any (a b : Pt) (w : World) : Calls Try.prog 72 #[.agg #[.int .i64 a.x, .int .i64 a.y], .agg #[.int .i64 b.x, .int .i64 b.y]] w fun e w' => e = .returned (.bool (lessB a b)) ∧ Below w.heap.size w w' := by
  obtain ⟨v, hv⟩ : ∃ v, v = lessB a b := ⟨_, rfl⟩
  rw [← hv]
  have hc : (v = true ∧ a.x < b.x) ∨ (v = true ∧ ¬ a.x < b.x ∧ (a.x == b.x) = true ∧ a.y < b.y) ∨ (v = false ∧ ¬ a.x < b.x ∧ (a.x == b.x) = true ∧ ¬ a.y < b.y) ∨ (v = false ∧ ¬ a.x < b.x ∧ (a.x == b.x) = false) := by
    rw [hv]
    simp only [lessB, decide_eq_true_eq, decide_eq_false_iff_not, beq_iff_eq, beq_eq_false_iff_ne]; omega
  clear hv
  rcases hc with ⟨rfl, h1⟩ | ⟨rfl, h1, h2, h3⟩ | ⟨rfl, h1, h2, h3⟩ | ⟨rfl, h1, h2⟩
  all_goals
    go_enter Try.func72, Try.ntmps72
    go_wp2_with fail
    go_ret
    exact ⟨rfl, below_alloc (below_alloc (Below.refl _ _))⟩
set_option maxRecDepth 100000 in
theorem sign_any (n : Int) (w : World) : Calls Try.prog 97 #[.int .i64 n] w fun e w' => e = .returned (.int .i64 n.sign) ∧ w = w' := by
  rcases sign_cases n with ⟨h, e⟩ | ⟨h, e⟩ | ⟨h, e⟩
  all_goals
    rw [e]
    clear e
    try subst h
    go_enter Try.func97, Try.ntmps97
    go_wp2_with fail
    go_ret
    exact ⟨rfl, rfl⟩
set_option maxRecDepth 100000 in
theorem turn_in (a b c : Pt) (w : World) (ha : inB a = true) (hb : inB b = true) (hc : inB c = true) :
    Calls Try.prog 87 #[.agg #[.int .i64 a.x, .int .i64 a.y], .agg #[.int .i64 b.x, .int .i64 b.y], .agg #[.int .i64 c.x, .int .i64 c.y]] w fun e w' => e = .returned (.int .i64 (trn a b c)) ∧ Below w.heap.size w w' := by
  obtain ⟨h1, h2⟩ := crs_bd ha hb hc
  have hd := inB_iff.1 ha
  have he := inB_iff.1 hb
  have hf := inB_iff.1 hc
  rw [show trn a b c = ((b.x - a.x) * (c.y - a.y) - (b.y - a.y) * (c.x - a.x)).sign from rfl]
  generalize hP : (b.x - a.x) * (c.y - a.y) = X at *
  generalize hQ : (b.y - a.y) * (c.x - a.x) = Y at *
  have w1 : wrap64 ((b.x - a.x) * (c.y - a.y)) = X := by rw [hP]; exact IntWalk.wrap64_in _ ⟨by omega, by omega⟩
  have w2 : wrap64 ((b.y - a.y) * (c.x - a.x)) = Y := by rw [hQ]; exact IntWalk.wrap64_in _ ⟨by omega, by omega⟩
  clear hP hQ ha hb hc
  go_enter Try.func87, Try.ntmps87
  go_wp2_with fail
  refine (sign_any _ _).mono ?_
  rintro e w' ⟨rfl, rfl⟩
  go_wp2_with fail
  go_ret
  exact ⟨rfl, below_alloc (below_alloc (below_alloc (Below.refl _ _)))⟩
end Go.Proofs.Ythopjhifepijiaa
