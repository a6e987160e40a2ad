/- The walks of the laws of layer 7. -/
import Derived.Test.YteiomhojflianaaMarkRef
namespace Go.Proofs.Yteiomhojflianaa
open Go.RowKit
set_option linter.unusedVariables false

/-- The document's example. -/
def mk7 : ByteArray := S (leB 7 8 ++ [97, 98] ++ List.replicate 46 0 ++ leB 7 8)
theorem mk7_size : mk7.size = 64 := by decide +kernel
theorem mk7_N : mN mk7 = 7 := by decide +kernel
theorem mk7_Ok : mOk mk7 = true := by decide +kernel
theorem mk7_T : (mT mk7).size = 48 := by decide +kernel
theorem mk7_ab : ((mT mk7).extract 0 2).toList = [97, 98] := by decide +kernel

set_option maxHeartbeats 400000 in
theorem awake07_any (w : World) : Calls Try.prog 13 #[] w fun e w' => e = .returned (.bool true) ∧ Below w.heap.size w w' := by
  have h1 := mk7_size
  have h2 := mk7_N
  have h3 := mk7_Ok
  have h4 := mk7_T
  have h5 := mk7_ab
  go_enter Try.func13, Try.ntmps13
  go_wp2_with fail
  refine (markPut_any 7 ⟨#[97, 98]⟩ _ (by omega) (by decide)).mono ?_
  rintro e w1 ⟨rfl, hb1⟩
  have e0 : mkStr 7 (ByteArray.mk #[97, 98]) = mk7 := rfl
  rw [e0]
  clear e0
  go_wp2_with fail
  refine (markGet_any mk7 _ (by omega)).mono ?_
  rintro e w2 ⟨rfl, q, rfl⟩
  go_wp2_with fail
  go_ret
  exact ⟨rfl, below_drewN hb1 q⟩

set_option maxHeartbeats 400000 in
theorem markGets_walk (s : ByteArray) (w : World) (hs0 : s.size ≤ 140737488351232) :
    Calls Try.prog 6 #[.string s] w fun e w' => e = .returned (.bool true) ∧ Below w.heap.size w w' := by
  have hs : s.size ≤ 9223372036854775807 := by omega
  go_enter Try.func6, Try.ntmps6
  go_wp2_with fail
  refine (markGet_any s _ hs).mono ?_
  rintro e w1 ⟨rfl, q1, rfl⟩
  go_wp2_with fail
  refine (refMarkGet_any s _ hs).mono ?_
  rintro e w1 ⟨rfl, q2, rfl⟩
  go_wp2_with fail
  refine (awake07_any _).mono ?_
  rintro e w3 ⟨rfl, hb3⟩
  go_wp2_with fail
  go_ret
  exact ⟨rfl, below_next (below_drewN (Below.refl _ _) _) (Nat.le_refl _) hb3⟩

/-- What mark.Best answers. -/
def bestV (a b : ByteArray) : Value :=
  if mOk a && (!mOk b || decide (mN b ≤ mN a)) then .tuple #[.int .u64 (mN a), .string (mT a), .int .i64 0]
  else if mOk b then .tuple #[.int .u64 (mN b), .string (mT b), .int .i64 1] else .tuple #[.int .u64 0, .string ⟨#[]⟩, .int .i64 (-1)]

set_option maxHeartbeats 1000000 in
theorem best_any (a b : ByteArray) (w : World) (ha : a.size ≤ 9223372036854775807) (hb : b.size ≤ 9223372036854775807) :
    Calls Try.prog 18 #[.string a, .string b] w fun e w' => e = .returned (bestV a b) ∧ Drawn w w' := by
  cases h1 : mOk a <;> cases h2 : mOk b <;> by_cases h3 : mN b ≤ mN a
  all_goals
    have fin : bestV a b = bestV a b := rfl
    conv at fin => rhs; simp [bestV, h1, h2, h3]
    have F := Lib.hid fin
    clear fin
    have d3 : decide (mN b ≤ mN a) = decide (mN b ≤ mN a) := rfl
    conv at d3 => rhs; simp [h3]
    go_enter Try.func18, Try.ntmps18
    go_wp2_with fail
    refine (markGet_any a _ ha).mono ?_
    rintro e w1 ⟨rfl, q1, rfl⟩
    go_wp2_with fail
    refine (markGet_any b _ hb).mono ?_
    rintro e w1 ⟨rfl, q2, rfl⟩
    go_wp2_with fail
    go_ret3
    rw [F.out]
    exact ⟨rfl, _, rfl⟩

set_option maxHeartbeats 1000000 in
theorem markBest_walk (a b : ByteArray) (w : World) (ha0 : a.size ≤ 140737488351232) (hb0 : b.size ≤ 140737488351232) :
    Calls Try.prog 8 #[.string a, .string b] w fun e w' => e = .returned (.bool true) ∧ Below w.heap.size w w' := by
  have ha : a.size ≤ 9223372036854775807 := by omega
  have hb : b.size ≤ 9223372036854775807 := by omega
  cases h1 : mOk a <;> cases h2 : mOk b <;> by_cases h3 : mN b ≤ mN a
  all_goals
    have fin : bestV a b = bestV a b := rfl
    conv at fin => rhs; simp [bestV, h1, h2, h3]
    have F := Lib.hid fin
    clear fin
    have d3 : decide (mN b ≤ mN a) = decide (mN b ≤ mN a) := rfl
    conv at d3 => rhs; simp [h3]
    go_enter Try.func8, Try.ntmps8
    go_wp2_with fail
    refine (best_any a b _ ha hb).mono ?_
    rintro e w1 ⟨rfl, q1, rfl⟩
    rw [F.out]
    go_wp2_with fail
    refine (refMarkGet_any a _ ha).mono ?_
    rintro e w1 ⟨rfl, q2, rfl⟩
    go_wp2_with fail
    refine (refMarkGet_any b _ hb).mono ?_
    rintro e w1 ⟨rfl, q3, rfl⟩
    go_wp2_with fail
    refine (awake07_any _).mono ?_
    rintro e w3 ⟨rfl, hb3⟩
    go_wp2_with fail
    go_ret
    exact ⟨rfl, below_next (below_drewN (Below.refl _ _) _) (Nat.le_refl _) hb3⟩

end Go.Proofs.Yteiomhojflianaa
