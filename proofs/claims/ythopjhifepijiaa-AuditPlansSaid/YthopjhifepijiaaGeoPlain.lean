/- Points, and how they turn: plain facts. No program in sight. -/
import Derived.Test.YthopjhifepijiaaPlain
namespace Go.Proofs.Ythopjhifepijiaa
set_option linter.unusedVariables false

/-- A point. -/
structure Pt where
  x : Int
  y : Int
deriving DecidableEq, Inhabited

/-- In range. -/
def inB (p : Pt) : Bool := decide (-268435456 ≤ p.x ∧ p.x ≤ 268435456 ∧ -268435456 ≤ p.y ∧ p.y ≤ 268435456)
theorem inB_iff {p : Pt} : inB p = true ↔ (-268435456 ≤ p.x ∧ p.x ≤ 268435456 ∧ -268435456 ≤ p.y ∧ p.y ≤ 268435456) := by simp [inB]
/-- The numbers fit. -/
def fitP (p : Pt) : Prop := -9223372036854775808 ≤ p.x ∧ p.x ≤ 9223372036854775807 ∧ -9223372036854775808 ≤ p.y ∧ p.y ≤ 9223372036854775807
theorem inB_fit {p : Pt} (h : inB p = true) : fitP p := by rw [inB_iff] at h; unfold fitP; omega
/-- Ahead. -/
def lessB (a b : Pt) : Bool := decide (a.x < b.x ∨ (a.x = b.x ∧ a.y < b.y))
/-- Twice a triangle's area. -/
def crs (a b c : Pt) : Int := (b.x - a.x) * (c.y - a.y) - (b.y - a.y) * (c.x - a.x)
/-- On which side. -/
def trn (a b c : Pt) : Int := (crs a b c).sign
def btwB (p a b : Pt) : Bool := (lessB a p && lessB p b) || (lessB b p && lessB p a)
def onB (p a b : Pt) : Bool := (inB p && inB a && inB b) && (decide (trn a b p = 0) && btwB p a b)
def meetB (a b c d : Pt) : Bool :=
  if !(inB a && inB b && inB c && inB d) || a = b || c = d then false
  else if onB a c d || onB b c d || onB c a b || onB d a b then true
  else if (a = c && b = d) || (a = d && b = c) then true
  else decide (trn a b c * trn a b d < 0) && decide (trn c d a * trn c d b < 0)
def halfI (o a : Pt) : Int := if o.y < a.y ∨ (a.y = o.y ∧ o.x < a.x) then 0 else 1
def arnd (o a b : Pt) : Int :=
  if !(inB o && inB a && inB b) || a = o || b = o then 0
  else if halfI o a - halfI o b ≠ 0 then halfI o a - halfI o b else - trn o a b

theorem mul_bd {x y M N : Int} (h1 : -M ≤ x) (h2 : x ≤ M) (h3 : -N ≤ y) (h4 : y ≤ N) : -(M * N) ≤ x * y ∧ x * y ≤ M * N := by
  have hM : 0 ≤ M := by omega
  have hN : 0 ≤ N := by omega
  have a1 := Int.mul_nonneg (show 0 ≤ M - x by omega) (show 0 ≤ N + y by omega)
  have a2 := Int.mul_nonneg (show 0 ≤ M + x by omega) (show 0 ≤ N - y by omega)
  have a3 := Int.mul_nonneg (show 0 ≤ M - x by omega) (show 0 ≤ N - y by omega)
  have a4 := Int.mul_nonneg (show 0 ≤ M + x by omega) (show 0 ≤ N + y by omega)
  simp only [Int.sub_mul, Int.add_mul, Int.mul_add, Int.mul_sub] at a1 a2 a3 a4
  omega
theorem crs_bd {a b c : Pt} (ha : inB a = true) (hb : inB b = true) (hc : inB c = true) :
    (-288230376151711744 ≤ (b.x - a.x) * (c.y - a.y) ∧ (b.x - a.x) * (c.y - a.y) ≤ 288230376151711744) ∧ (-288230376151711744 ≤ (b.y - a.y) * (c.x - a.x) ∧ (b.y - a.y) * (c.x - a.x) ≤ 288230376151711744) := by
  rw [inB_iff] at ha hb hc
  have h1 := mul_bd (x := b.x - a.x) (y := c.y - a.y) (M := 536870912) (N := 536870912) (by omega) (by omega) (by omega) (by omega)
  have h2 := mul_bd (x := b.y - a.y) (y := c.x - a.x) (M := 536870912) (N := 536870912) (by omega) (by omega) (by omega) (by omega)
  omega
theorem sign_cases (n : Int) : (n < 0 ∧ n.sign = -1) ∨ (n = 0 ∧ n.sign = 0) ∨ (0 < n ∧ n.sign = 1) := by
  rcases Int.lt_trichotomy n 0 with h | h | h
  · exact .inl ⟨h, Int.sign_eq_neg_one_of_neg h⟩
  · exact .inr (.inl ⟨h, by rw [h]; rfl⟩)
  · exact .inr (.inr ⟨h, Int.sign_eq_one_of_pos h⟩)
theorem trn_cases (a b c : Pt) : trn a b c = -1 ∨ trn a b c = 0 ∨ trn a b c = 1 := by
  unfold trn
  rcases sign_cases (crs a b c) with h | h | h <;> omega
theorem trn_bd (a b c : Pt) : -1 ≤ trn a b c ∧ trn a b c ≤ 1 := by rcases trn_cases a b c with h | h | h <;> omega
theorem half_bd (o a : Pt) : 0 ≤ halfI o a ∧ halfI o a ≤ 1 := by unfold halfI; split <;> omega
end Go.Proofs.Ythopjhifepijiaa
