/- The contracts of the reference of layer 7. -/
import Derived.Test.YteiomhojflianaaRef1
import Derived.Test.YteiomhojflianaaMark
namespace Go.Proofs.Yteiomhojflianaa
open Go.RowKit
set_option linter.unusedVariables false

set_option maxHeartbeats 400000 in
/-- The reference's Get. -/
theorem refMarkGet_any (s : ByteArray) (w : World) (hs : s.size ≤ 9223372036854775807) :
    Calls Try.prog 16 #[.string s] w fun e w' => e = .returned (.tuple #[.int .u64 (mN s), .string (mT s), .bool (mOk s)]) ∧ Drawn w w' := by
  by_cases hz : s.size = 64
  · have z1 : s.size ≤ 64 := by omega
    have z2 : 64 ≤ s.size := by omega
    have z3 : ((s.size : Int) != 64) = false := by simp [hz]
    by_cases he : cut s 0 8 = cut s 56 8
    · have fin : mN s = leN (cut s 0 8) ∧ mT s = s.extract 8 56 ∧ mOk s = true := by simp [mN, mT, mOk, hz, he]
      have H := Lib.hid fin; clear fin
      have e1 : ((s.extract 0 8).toList == (s.extract 56 s.size).toList) = true := str_eq (by rw [extract_cut, extract_cut, hz, he])
      have e2 : cut (s.extract 0 8) 0 (s.extract 0 8).size = cut s 0 8 := by
        rw [extract_cut, S_size, cut_length s 0 (8 - 0) (by omega)]; simp [cut, data_S, List.take_take]
      have e3 : (s.extract 0 8).size ≤ 8 := by simp [ByteArray.size_extract]; omega
      have E2 := Lib.hid e2
      clear hz he e2
      go_enter Try.func16, Try.ntmps16
      go_wp2_with fail
      go_quiet (fail)
      go_wp2_with fail
      go_quiet ((go_at_call 26; exact quiet_add_left (refGet_any _ _ e3)))
      go_wp2_with fail
      go_ret3
      rw [H.out.1, H.out.2.1, H.out.2.2, ← E2.out]
      exact ⟨rfl, Drawn.twice _ _ _⟩
    · have fin : mN s = 0 ∧ mT s = ⟨#[]⟩ ∧ mOk s = false := by simp [mN, mT, mOk, he]
      have H := Lib.hid fin; clear fin
      have e1 : ((s.extract 0 8).toList == (s.extract 56 s.size).toList) = false := str_ne (by rw [extract_cut, extract_cut, hz]; intro h; exact he (S_inj.1 h))
      clear hz he
      go_enter Try.func16, Try.ntmps16
      go_wp2_with fail
      go_quiet (fail)
      go_wp2_with fail
      go_ret3
      rw [H.out.1, H.out.2.1, H.out.2.2]
      exact ⟨rfl, _, rfl⟩
  · have fin : mN s = 0 ∧ mT s = ⟨#[]⟩ ∧ mOk s = false := by simp [mN, mT, mOk_size s hz]
    have H := Lib.hid fin; clear fin
    have z1 : ((s.size : Int) != 64) = true := by simp; omega
    go_enter Try.func16, Try.ntmps16
    go_wp2_with fail
    go_quiet (fail)
    go_wp2_with fail
    go_ret3
    rw [H.out.1, H.out.2.1, H.out.2.2]
    exact ⟨rfl, _, rfl⟩

/-- What the reference has behind j noughts. -/
def markTo (n : Int) (s : ByteArray) (j : Nat) : ByteArray := S (leB n 8 ++ s.data.toList ++ nul j)
theorem markTo_size (n : Int) (s : ByteArray) (j : Nat) : (markTo n s j).size = 8 + s.size + j := by
  unfold markTo; rw [S_size]; simp [leB_length, nul_length]; omega
theorem markTo_step (n : Int) (s : ByteArray) (j : Nat) : markTo n s j ++ ⟨#[0]⟩ = markTo n s (j + 1) := by
  unfold markTo
  rw [show (ByteArray.mk #[0]) = S [0] from rfl, S_append, show nul (j + 1) = nul j ++ [0] from List.replicate_succ']
  simp only [List.append_assoc]
theorem markTo_end (n : Int) (s : ByteArray) : markTo n s (48 - s.size) ++ S (leB n 8) = mkStr n s := by
  unfold markTo; rw [S_append]; rfl

set_option maxHeartbeats 400000 in
/-- The reference's Put. -/
theorem refMarkPut_any (n : Int) (s : ByteArray) (w : World) (hn : 0 ≤ n) (hu : n ≤ 18446744073709551615) (h : s.size ≤ 48) :
    Calls Try.prog 15 #[.int .u64 n, .string s] w fun e w' => e = .returned (.string (mkStr n s)) ∧ Below w.heap.size w w' := by
  have z1 : (S (leB n 8)).size ≤ 8 := by rw [S_size, leB_length]; omega
  go_enter Try.func15, Try.ntmps15
  go_wp2_with fail
  refine (refPut_any n 8 _ (by omega) hn hu).mono ?_
  rintro e w1 ⟨rfl, hb1⟩
  go_wp2_with fail
  go_loop [5] (fun t => ∃ j : Nat, j ≤ 48 - s.size ∧ t = .string (markTo n s j)) (fun t => match t with | .string x => 56 - x.size | _ => 0)
  case atStart =>
    refine ⟨0, Nat.zero_le _, ?_⟩
    rw [S_append_s]; simp [markTo, nul]
  case round =>
    obtain ⟨j, hj, rfl⟩ := hrel
    have z2 := markTo_size n s j
    by_cases hlt : j < 48 - s.size
    · have H1 := Lib.hid z2
      have z3 : (markTo n s j).size < 56 := by omega
      have st := markTo_step n s j
      have H2 := Lib.hid st
      clear z2 st
      go_wp2
      go_round
      case rel => exact ⟨j + 1, by omega, by rw [H2.out]⟩
      case measure =>
        show 56 - (markTo n s j ++ ⟨#[0]⟩).size < 56 - (markTo n s j).size
        rw [H2.out, markTo_size]
        have := H1.out
        omega
    · obtain rfl : j = 48 - s.size := by omega
      have z3 : 56 ≤ (markTo n s (48 - s.size)).size := by omega
      have z4 : (markTo n s (48 - s.size)).size ≤ 56 := by omega
      have H1 := Lib.hid (markTo_end n s)
      clear z2
      go_wp2_with fail
      refine (refPut_any n 8 _ (by omega) hn hu).mono ?_
      rintro e w2 ⟨rfl, hb2⟩
      go_wp2_with fail
      go_ret
      exact ⟨by rw [H1.out]; rfl, below_next hb1 hb1.size hb2⟩
end Go.Proofs.Yteiomhojflianaa
