/- The contracts of package mark. -/
import Derived.Test.YtfnfapgmicmegaaRepeat
import Derived.Test.YtfnfapgmicmegaaShelf
import Derived.Lib.Hide
import Derived.Deep.QuietTactic
import Derived.BigQuiet
namespace Go.Proofs.Ytfnfapgmicmegaa
open Go.RowKit
set_option linter.unusedVariables false

set_option maxRecDepth 100000 in
set_option maxHeartbeats 400000 in
theorem markPut_large (n : Int) (s : ByteArray) (w : World) (h : 48 < s.size) :
    Calls Try.prog 35 #[.int .u64 n, .string s] w fun e w' => e = .returned (.tuple #[.string ⟨#[]⟩, .int .i64 3]) ∧ w = w' := by
  go_enter Try.func35, Try.ntmps35
  go_wp2_with fail
  go_ret2
  exact ⟨rfl, rfl⟩

set_option maxRecDepth 100000 in
set_option maxHeartbeats 400000 in
theorem markPut_any (n : Int) (s : ByteArray) (w : World) (hn : 0 ≤ n) (h : s.size ≤ 48) :
    Calls Try.prog 35 #[.int .u64 n, .string s] w fun e w' => e = .returned (.tuple #[.string (mkStr n s), .int .i64 0]) ∧ Below w.heap.size w w' := by
  have z1 : (S (leB n 8)).size ≤ 8 := by rw [S_size, leB_length]; omega
  have z2 : (S (nul (48 - s.size))).size ≤ 48 := by rw [S_size, nul_length]; omega
  go_enter Try.func35, Try.ntmps35
  go_wp2_with fail
  refine (put_any n 8 _ (by omega) hn).mono ?_
  rintro e w1 ⟨rfl, hb1⟩
  go_wp2_with fail
  refine (repeat_nul _ _ (by omega) (by omega)).mono ?_
  rintro e w2 ⟨rfl, hb2⟩
  go_wp2_with fail
  go_ret2
  refine ⟨?_, hb1.trans (hb2.mono hb1.size)⟩
  rw [S_append_s, S_append, S_append]
  rfl

set_option maxRecDepth 100000 in
set_option maxHeartbeats 400000 in
/-- mark.Get. -/
theorem markGet_any (s : ByteArray) (w : World) (hs : s.size ≤ 9223372036854775807) :
    Calls Try.prog 49 #[.string s] w fun e w' => e = .returned (.tuple #[.int .u64 (mN s), .string (mT s), .bool (mOk s)]) ∧ Drawn w w' := by
  by_cases hz : s.size = 64
  · by_cases he : leN (cut s 0 8) = leN (cut s 56 8)
    · have fin : mN s = leN (cut s 0 8) ∧ mT s = s.extract 8 56 ∧ mOk s = true := by simp [mN, mT, mOk_yes s hz he]
      have H := Lib.hid fin; clear fin
      have Z := Lib.hid hz
      have z1 : s.size ≤ 64 := by omega
      have z2 : 64 ≤ s.size := by omega
      have e1 : (leN (cut s 0 8) != leN (cut s 56 8)) = false := by simp [he]
      clear hz he
      go_enter Try.func49, Try.ntmps49
      go_wp2_with fail
      refine (get_any s 0 8 _ (by omega) (by omega) hs).mono ?_
      rintro e w1 ⟨rfl, rfl⟩
      go_wp2_with fail
      refine (get_any s 56 8 _ (by omega) (by omega) hs).mono ?_
      rintro e w1 ⟨rfl, rfl⟩
      go_wp2_with fail
      go_quiet (fail)
      go_wp2_with fail
      go_ret3
      rw [H.out.1, H.out.2.1, H.out.2.2]
      exact ⟨rfl, _, rfl⟩
    · have fin : mN s = 0 ∧ mT s = ⟨#[]⟩ ∧ mOk s = false := by simp [mN, mT, mOk_no s he]
      have H := Lib.hid fin; clear fin
      have z1 : s.size ≤ 64 := by omega
      have z2 : 64 ≤ s.size := by omega
      have e1 : (leN (cut s 0 8) != leN (cut s 56 8)) = true := by simp [he]
      clear hz he
      go_enter Try.func49, Try.ntmps49
      go_wp2_with fail
      refine (get_any s 0 8 _ (by omega) (by omega) hs).mono ?_
      rintro e w1 ⟨rfl, rfl⟩
      go_wp2_with fail
      refine (get_any s 56 8 _ (by omega) (by omega) hs).mono ?_
      rintro e w1 ⟨rfl, rfl⟩
      go_wp2_with fail
      go_ret3
      rw [H.out.1, H.out.2.1, H.out.2.2]
      exact ⟨rfl, Drawn.refl _⟩
  · have fin : mN s = 0 ∧ mT s = ⟨#[]⟩ ∧ mOk s = false := by simp [mN, mT, mOk_size s hz]
    have H := Lib.hid fin; clear fin
    have z1 : ((s.size : Int) != 64) = true := by simp; omega
    go_enter Try.func49, Try.ntmps49
    go_wp2_with fail
    go_ret3
    rw [H.out.1, H.out.2.1, H.out.2.2]
    exact ⟨rfl, Drawn.refl _⟩

end Go.Proofs.Ytfnfapgmicmegaa
