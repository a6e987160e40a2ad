/- The contract of the reference's Put. -/
import Derived.Test.YtfnfapgmicmegaaWord
import Derived.Lib.Hide
namespace Go.Proofs.Ytfnfapgmicmegaa
open Go.RowKit
set_option linter.unusedVariables false

theorem byteAt_step (n : Int) (j : Nat) : n / 2 ^ (8 * j) / 256 = n / 2 ^ (8 * (j + 1)) := by
  rw [Int.ediv_ediv_of_nonneg (Int.le_of_lt (Int.pow_pos (by decide))), show 8 * (j + 1) = 8 * j + 8 by omega, Int.pow_add]
  rfl
theorem div_step (x : Int) (h0 : 0 ≤ x) (h1 : x ≤ 18446744073709551615) : IntKind.u64.wrap (x.tdiv 256) = x / 256 := by
  rw [IntKind.wrap_u64, Int.tdiv_eq_ediv_of_nonneg h0]; omega
theorem quot_le (n : Int) (j : Nat) (h0 : 0 ≤ n) (h : n ≤ 18446744073709551615) : n / 2 ^ (8 * j) ≤ 18446744073709551615 := by
  have : n / 2 ^ (8 * j) ≤ n := Int.ediv_le_self _ h0
  omega
theorem leB_snoc (n : Int) (k : Nat) : leB n (k + 1) = leB n k ++ [UInt8.ofNat (byteAt n k).toNat] := by
  simp [leB, List.range_succ]

/-- 'string([]byte{x})': the slice lies in the newest block. -/
theorem conv1 (w : World) (x : Int) (h0 : 0 ≤ x) (h1 : x < 256) :
    (convert 71 9 (.slice (some ⟨w.heap.size, 0, none⟩) 1 1)).run Try.prog (w.alloc (.cells #[.int .u8 x] 5)) = .ok (.string (S [UInt8.ofNat x.toNat])) (w.alloc (.cells #[.int .u8 x] 5)) := by
  refine run_convert_bytes_back (P := Try.prog) _ 71 9 5 ⟨w.heap.size, 0, none⟩ 1 [UInt8.ofNat x.toNat] Try.underlying71 Try.underlying5 Try.underlying9 ?_
  intro j hj
  obtain rfl : j = 0 := by simp at hj; omega
  have hm : x.toNat % 256 = x.toNat := by omega
  have : (x.toNat : Int) = x := by omega
  simp [Addr.add, go_sem, hm, this]

/-! The number of bytes, read from the left. -/
theorem leN_append (a b : List UInt8) : leN (a ++ b) = leN a + 256 ^ a.length * leN b := by
  induction a with
  | nil => simp [leN]
  | cons x a ih =>
    simp only [List.cons_append, leN, ih, List.length_cons, Int.pow_succ, Int.mul_add]
    rw [Int.mul_comm (256 ^ a.length) 256, Int.mul_assoc]
    omega
theorem cut_snoc (s : ByteArray) (j : Nat) (h : j < s.size) : cut s 0 (j + 1) = cut s 0 j ++ [s[j]] := by
  unfold cut
  rw [List.drop_zero, List.take_succ_eq_append_getElem (by simpa using h)]
  rfl
theorem pow8 (j : Nat) : (2 : Int) ^ (8 * j) = 256 ^ j := by rw [Int.pow_mul]; rfl
theorem leN_snoc (s : ByteArray) (j : Nat) (h : j < s.size) (hj : j ≤ 7) : IntKind.u64.wrap (leN (cut s 0 j) + IntKind.u64.wrap (IntKind.u64.wrap s[j].toNat * IntKind.u64.wrap (2 ^ (8 * j)))) = leN (cut s 0 (j + 1)) := by
  have hb := s[j].toNat_lt
  have hl := cut_length s 0 j (by omega)
  have h1 := leN_bd (cut s 0 j)
  have h2 := leN_bd (cut s 0 (j + 1))
  rw [cut_snoc s j h, leN_append, hl] at h2 ⊢
  have h3 : ((cut s 0 j) ++ [s[j]]).length = j + 1 := by simp [hl]
  rw [h3] at h2
  rw [hl] at h1
  simp only [leN, Int.mul_zero, Int.add_zero] at h2 ⊢
  have h4 : (256 : Int) ^ (j + 1) ≤ 18446744073709551616 := by
    rcases j with _ | _ | _ | _ | _ | _ | _ | _ | j <;> first | decide | omega
  have h5 := pow_le j hj
  have h6 : (0 : Int) < 256 ^ j := Int.pow_pos (by decide)
  have h7 : 0 ≤ (256 : Int) ^ j * s[j].toNat := Int.mul_nonneg (by omega) (by omega)
  rw [pow8, IntKind.wrap_u64, IntKind.wrap_u64, IntKind.wrap_u64, IntKind.wrap_u64, Int.emod_eq_of_lt (a := (s[j].toNat : Int)) (by omega) (by omega), Int.emod_eq_of_lt (a := 256 ^ j) (by omega) (by omega),
    Int.mul_comm, Int.emod_eq_of_lt (a := 256 ^ j * (s[j].toNat : Int)) (by omega) (by omega), Int.emod_eq_of_lt (by omega) (by omega)]
theorem pow_step (j : Nat) : IntKind.u64.wrap (IntKind.u64.wrap (2 ^ (8 * j)) * 256) = IntKind.u64.wrap (2 ^ (8 * (j + 1))) := by
  rw [IntKind.wrap_u64, IntKind.wrap_u64, IntKind.wrap_u64, show 8 * (j + 1) = 8 * j + 8 by omega, Int.pow_add]
  generalize (2 : Int) ^ (8 * j) = x
  omega

set_option maxRecDepth 100000 in
set_option maxHeartbeats 400000 in
theorem refPut_any (n : Int) (k : Nat) (w : World) (hk : k ≤ 8) (hn : 0 ≤ n) (hu : n ≤ 18446744073709551615) :
    Calls Try.prog 56 #[.int .u64 n, .int .i64 k] w fun e w' => e = .returned (.string (S (leB n k))) ∧ Below w.heap.size w w' := by
  go_enter Try.func56, Try.ntmps56
  go_wp2
  go_loopw [0, 5, 6] (fun m s c wr => ∃ j : Nat, j ≤ k ∧ c = .int .i64 j ∧ m = .int .u64 (n / 2 ^ (8 * j)) ∧ s = .string (S (leB n j)) ∧ Below w.heap.size w wr) (fun _ _ c _ => k - (intOf c).toNat)
  case atStart =>
    refine ⟨0, Nat.zero_le _, rfl, ?_, rfl, Below.refl _ _⟩
    simp
  case round =>
    obtain ⟨j, hj, rfl, rfl, rfl, hb⟩ := hrel
    by_cases hlt : j < k
    · have hsz := hb.size
      have z1 : (S (leB n j)).size ≤ 8 := by rw [S_size, leB_length]; omega
      have h0 : 0 ≤ n / 2 ^ (8 * j) := Int.ediv_nonneg hn (Int.le_of_lt (Int.pow_pos (by decide)))
      have hv := conv1 wr (n / 2 ^ (8 * j) % 256) (by omega) (by omega)
      have hst := byteAt_step n j
      have hq := div_step _ h0 (quot_le n j hn hu)
      rw [hst] at hq
      have hsn := leB_snoc n j
      have H1 := Lib.hid hq; have H2 := Lib.hid hsn; clear hst hsn hq
      have z2 : (S [UInt8.ofNat (n / 2 ^ (8 * j) % 256).toNat]).size ≤ 1 := by rw [S_size]; simp
      go_wp2
      go_roundw
      case rel => exact ⟨j + 1, by omega, by go_num, by rw [H1.out], by rw [H2.out, S_append]; rfl, hb.alloc hsz _⟩
      case measure => simp [intOf]; omega
    · obtain rfl : j = k := by omega
      go_wp2
      go_ret
      exact ⟨rfl, hb⟩

end Go.Proofs.Ytfnfapgmicmegaa
