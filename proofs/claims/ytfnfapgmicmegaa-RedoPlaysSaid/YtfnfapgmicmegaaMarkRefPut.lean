/- The contract of the reference's Put of a mark. -/
import Derived.Test.YtfnfapgmicmegaaRef1Put
import Derived.Test.YtfnfapgmicmegaaMark
namespace Go.Proofs.Ytfnfapgmicmegaa
open Go.RowKit
set_option linter.unusedVariables false

/-- What the reference has behind j noughts. -/
def markTo (n : Int) (s : ByteArray) (j : Nat) : ByteArray := S (leB n 8 ++ s.data.toList ++ nul j)
theorem markTo_size (n : Int) (s : ByteArray) (j : Nat) : (markTo n s j).size = 8 + s.size + j := by
  unfold markTo; rw [S_size]; simp [leB_length, nul_length]; omega
theorem markTo_step (n : Int) (s : ByteArray) (j : Nat) : markTo n s j ++ ⟨#[0]⟩ = markTo n s (j + 1) := by
  unfold markTo
  rw [show (ByteArray.mk #[0]) = S [0] from rfl, S_append, show nul (j + 1) = nul j ++ [0] from List.replicate_succ']
  simp only [List.append_assoc]
theorem markTo_end (n : Int) (s : ByteArray) : markTo n s (48 - s.size) ++ S (leB n 8) = mkStr n s := by
  unfold markTo; rw [S_append]; rfl

set_option maxRecDepth 100000 in
set_option maxHeartbeats 400000 in
/-- The reference's Put. -/
theorem refMarkPut_any (n : Int) (s : ByteArray) (w : World) (hn : 0 ≤ n) (hu : n ≤ 18446744073709551615) (h : s.size ≤ 48) :
    Calls Try.prog 55 #[.int .u64 n, .string s] w fun e w' => e = .returned (.string (mkStr n s)) ∧ Below w.heap.size w w' := by
  have z1 : (S (leB n 8)).size ≤ 8 := by rw [S_size, leB_length]; omega
  go_enter Try.func55, Try.ntmps55
  go_wp2_with fail
  refine (refPut_any n 8 _ (by omega) hn hu).mono ?_
  rintro e w1 ⟨rfl, hb1⟩
  go_wp2_with fail
  go_loop [5] (fun t => ∃ j : Nat, j ≤ 48 - s.size ∧ t = .string (markTo n s j)) (fun t => match t with | .string x => 56 - x.size | _ => 0)
  case atStart =>
    refine ⟨0, Nat.zero_le _, ?_⟩
    rw [S_append_s]; simp [markTo, nul]
  case round =>
    obtain ⟨j, hj, rfl⟩ := hrel
    have z2 := markTo_size n s j
    by_cases hlt : j < 48 - s.size
    · have H1 := Lib.hid z2
      have z3 : (markTo n s j).size < 56 := by omega
      have st := markTo_step n s j
      have H2 := Lib.hid st
      clear z2 st
      go_wp2
      go_round
      case rel => exact ⟨j + 1, by omega, by rw [H2.out]⟩
      case measure =>
        show 56 - (markTo n s j ++ ⟨#[0]⟩).size < 56 - (markTo n s j).size
        rw [H2.out, markTo_size]
        have := H1.out
        omega
    · obtain rfl : j = 48 - s.size := by omega
      have z3 : 56 ≤ (markTo n s (48 - s.size)).size := by omega
      have z4 : (markTo n s (48 - s.size)).size ≤ 56 := by omega
      have H1 := Lib.hid (markTo_end n s)
      clear z2
      go_wp2_with fail
      refine (refPut_any n 8 _ (by omega) hn hu).mono ?_
      rintro e w2 ⟨rfl, hb2⟩
      go_wp2_with fail
      go_ret
      exact ⟨by rw [H1.out]; rfl, below_next hb1 hb1.size hb2⟩
end Go.Proofs.Ytfnfapgmicmegaa
