/- The contracts of the reference's Mark, Laid and page. -/
import Derived.Test.YtfnfapgmicmegaaRef9Plain
import Derived.Test.YtfnfapgmicmegaaMarkRefPut
namespace Go.Proofs.Ytfnfapgmicmegaa
open Go.RowKit Go.Joins
set_option linter.unusedVariables false

set_option maxRecDepth 100000 in
set_option maxHeartbeats 1000000 in
theorem refMarkS_any (q n : Int) (w : World) (q0 : 0 ≤ q) (q1 : q ≤ 18446744073709551615) (n0 : 0 ≤ n) (n1 : n ≤ 1000000) :
    Calls Try.prog 37 #[.int .u64 q, .int .i64 n] w fun e w' => e = .returned (.string (markS q n)) ∧ Below w.heap.size w w' := by
  have u1 := u64_of n n0 (by omega)
  have z1 : (S (leB n 2)).size ≤ 2 := by rw [S_size, leB_length]; omega
  have T : S (leB n 2) ++ ⟨#[1]⟩ = S (leB n 2 ++ [1]) := by
    have : (⟨#[1]⟩ : ByteArray) = S [1] := rfl
    rw [this, S_append]
  have TT := Lib.hid T
  clear T
  go_enter Try.func37, Try.ntmps37
  go_wp2_with fail
  refine (refPut_any n 2 _ (by omega) n0 (by omega)).mono ?_
  rintro e w1 ⟨rfl, hb1⟩
  go_wp2_with fail
  rw [TT.out]
  refine (refMarkPut_any q (S (leB n 2 ++ [1])) _ q0 q1 (by rw [markS_three]; omega)).mono ?_
  rintro e w2 ⟨rfl, hb2⟩
  go_wp2_with fail
  go_ret
  exact ⟨rfl, below_step hb2 hb1⟩

theorem laid_nul (p : ByteArray) (t : Nat) (h : laidAt p t = 0) : S (laidL p t) ++ ⟨#[0]⟩ = S (laidL p (t + 1)) := by
  have : (⟨#[0]⟩ : ByteArray) = S [0] := rfl
  rw [this, S_append, laidL_succ, h]
theorem one_byte (p : ByteArray) (x : Nat) (h : x < p.size) : p.extract x (x + 1) = S [p.data.toList.getD x 0] := by
  rw [extract_cut, S_inj]
  unfold cut
  rw [show x + 1 - x = 1 by omega, List.drop_eq_getElem_cons (by rw [data_length]; exact h)]
  simp [List.getD, h]
theorem laid_byte (p : ByteArray) (t x : Nat) (h : x < p.size) (he : laidAt p t = p.data.toList.getD x 0) : S (laidL p t) ++ p.extract x (x + 1) = S (laidL p (t + 1)) := by
  rw [one_byte p x h, S_append, laidL_succ, he]
theorem laidL_size (p : ByteArray) (t : Nat) : (S (laidL p t)).size = t := by rw [S_size, laidL_length]

set_option maxRecDepth 100000 in
set_option maxHeartbeats 4000000 in
theorem refLaid_any (p : ByteArray) (w : World) (hp : p.size ≤ 512) :
    Calls Try.prog 57 #[.string p] w fun e w' => e = .returned (.string (laidS p)) ∧ w = w' := by
  go_enter Try.func57, Try.ntmps57
  go_wp2_with fail
  go_loop [3, 4] (fun v c => ∃ i : Nat, i ≤ 9 ∧ c = .int .i64 i ∧ v = .string (S (laidL p (64 * i)))) (fun _ c => 9 - (intOf c).toNat)
  case atStart => exact ⟨0, Nat.zero_le _, rfl, rfl⟩
  case round =>
    obtain ⟨i, hi, rfl, rfl⟩ := hrel
    by_cases hlt : i < 9
    · go_wp2_with fail
      go_loop [3, 5] (fun v c => ∃ k : Nat, k ≤ 64 ∧ c = .int .i64 k ∧ v = .string (S (laidL p (64 * i + k)))) (fun _ c => 64 - (intOf c).toNat)
      case atStart => exact ⟨0, Nat.zero_le _, rfl, rfl⟩
      case round =>
        obtain ⟨k, hk, rfl, rfl⟩ := hrel
        by_cases hk64 : k < 64
        · have hls := laidL_size p (64 * i + k)
          have hl1 : (S (laidL p (64 * i + k))).size ≤ 576 := by omega
          clear hls
          by_cases h10 : k = 10
          · subst h10
            have hst := laid_nul p (64 * i + 10) (by rw [laidAt_eq, if_pos (by omega)])
            have HST := Lib.hid hst
            clear hst
            go_wp2
            go_round
            case rel => exact ⟨10 + 1, by omega, by go_num, by rw [HST.out]⟩
            case measure => simp [intOf]
          · by_cases hgt : 10 < k
            · obtain ⟨x, hx⟩ : ∃ x : Nat, x = 63 * i + k - 1 := ⟨_, rfl⟩
              have hix : bareIx (64 * i + k) = x := by unfold bareIx; rw [if_pos (by omega)]; omega
              have e10 : ((k : Int) == 10) = false := by rw [beq_eq_false_iff_ne]; omega
              have e10' : (k == 10) = false := by rw [beq_eq_false_iff_ne]; omega
              have hxi : 63 * (i : Int) + (k : Int) - 1 = (x : Int) := by omega
              by_cases hin : x < p.size
              · have hst := laid_byte p (64 * i + k) x hin (by rw [laidAt_eq, if_neg (by omega), hix])
                have k1 : ¬ (9223372036854775807 < (S (laidL p (64 * i + k))).size + (min (x + 1) p.size - x)) := by omega
                have HST := Lib.hid hst
                clear hst hix hx h10
                go_wp2
                go_round
                case rel => exact ⟨k + 1, by omega, by go_num, by rw [HST.out]; rfl⟩
                case measure => simp [intOf]; omega
              · have hst := laid_nul p (64 * i + k) (by
                  rw [laidAt_eq, if_neg (by omega), hix]
                  unfold List.getD
                  rw [List.getElem?_eq_none (by rw [data_length]; omega)]; rfl)
                have HST := Lib.hid hst
                clear hst hix hx h10
                go_wp2
                go_round
                case rel => exact ⟨k + 1, by omega, by go_num, by rw [HST.out]; rfl⟩
                case measure => simp [intOf]; omega
            · obtain ⟨x, hx⟩ : ∃ x : Nat, x = 63 * i + k := ⟨_, rfl⟩
              have hix : bareIx (64 * i + k) = x := by unfold bareIx; rw [if_neg (by omega)]; omega
              have e10 : ((k : Int) == 10) = false := by rw [beq_eq_false_iff_ne]; omega
              have e10' : (k == 10) = false := by rw [beq_eq_false_iff_ne]; omega
              have hxi : 63 * (i : Int) + (k : Int) = (x : Int) := by omega
              have hle : k < 10 := by omega
              by_cases hin : x < p.size
              · have hst := laid_byte p (64 * i + k) x hin (by rw [laidAt_eq, if_neg (by omega), hix])
                have k1 : ¬ (9223372036854775807 < (S (laidL p (64 * i + k))).size + (min (x + 1) p.size - x)) := by omega
                have HST := Lib.hid hst
                clear hst hix hx h10
                go_wp2
                go_round
                case rel => exact ⟨k + 1, by omega, by go_num, by rw [HST.out]; rfl⟩
                case measure => simp [intOf]; omega
              · have hst := laid_nul p (64 * i + k) (by
                  rw [laidAt_eq, if_neg (by omega), hix]
                  unfold List.getD
                  rw [List.getElem?_eq_none (by rw [data_length]; omega)]; rfl)
                have HST := Lib.hid hst
                clear hst hix hx h10
                go_wp2
                go_round
                case rel => exact ⟨k + 1, by omega, by go_num, by rw [HST.out]; rfl⟩
                case measure => simp [intOf]; omega
        · obtain rfl : k = 64 := by omega
          go_wp2
          go_round
          case rel => exact ⟨i + 1, by omega, by go_num, by rw [show 64 * (i + 1) = 64 * i + 64 by omega]⟩
          case measure => simp [intOf]; omega
    · obtain rfl : i = 9 := by omega
      go_wp2
      go_ret
      exact ⟨rfl, rfl⟩

theorem bare_size (s : ByteArray) (t : Nat) : (S (barePl s t)).size = t - (t + 53) / 64 := by rw [S_size, barePl_length]
theorem bare_skip (s : ByteArray) (t : Nat) (h : t % 64 = 10) : S (barePl s t) = S (barePl s (t + 1)) := by rw [barePl_succ, if_pos h]
theorem bare_take (s : ByteArray) (t : Nat) (h : t % 64 ≠ 10) (ht : t < s.size) : S (barePl s t) ++ s.extract t (t + 1) = S (barePl s (t + 1)) := by
  rw [one_byte s t ht, S_append, barePl_succ, if_neg h]

set_option maxRecDepth 100000 in
set_option maxHeartbeats 4000000 in
theorem refPage_any (s : ByteArray) (w : World) (hs : s.size = 576) :
    Calls Try.prog 38 #[.string s] w fun e w' => e = .returned (.tuple #[.string (S (barePl s 520)), .bool (decide (laidS (S (barePl s 520)) = s))]) ∧ w = w' := by
  have s1 : s.size ≤ 576 := by omega
  have s2 : 576 ≤ s.size := by omega
  clear hs
  go_enter Try.func38, Try.ntmps38
  go_wp2_with fail
  go_loop [4, 5] (fun v c => ∃ k : Nat, k ≤ 520 ∧ c = .int .i64 k ∧ v = .string (S (barePl s k))) (fun _ c => 520 - (intOf c).toNat)
  case atStart => exact ⟨0, Nat.zero_le _, rfl, rfl⟩
  case round =>
    obtain ⟨k, hk, rfl, rfl⟩ := hrel
    have hsz := bare_size s k
    by_cases hlt : k < 520
    · have hs1 : (S (barePl s k)).size < 512 := by omega
      clear hsz
      by_cases h10 : k % 64 = 10
      · have t : (((k : Int) % 64) != 10) = false := by
          have : (k : Int) % 64 = 10 := by omega
          rw [this]; rfl
        have HST := Lib.hid (bare_skip s k h10)
        clear h10
        go_wp2
        go_round
        case rel => exact ⟨k + 1, by omega, by go_num, by rw [HST.out]⟩
        case measure => simp [intOf]; omega
      · have t : (((k : Int) % 64) != 10) = true := by rw [bne_iff_ne]; omega
        have HST := Lib.hid (bare_take s k h10 (by omega))
        have k1 : ¬ (9223372036854775807 < (S (barePl s k)).size + (min (k + 1) s.size - k)) := by omega
        clear h10
        go_wp2
        go_round
        case rel => exact ⟨k + 1, by omega, by go_num, by rw [HST.out]⟩
        case measure => simp [intOf]; omega
    · obtain rfl : k = 520 := by omega
      have hs1 : 512 ≤ (S (barePl s 520)).size := by omega
      have hs2 : (S (barePl s 520)).size ≤ 512 := by omega
      clear hsz
      by_cases he : laidS (S (barePl s 520)) = s
      · have st := str_eq he
        have HE := Lib.hid he
        clear he
        go_wp2_with fail
        refine (refLaid_any _ _ hs2).mono ?_
        rintro e w1 ⟨rfl, rfl⟩
        go_wp2_with fail
        go_ret2
        exact ⟨by rw [decide_eq_true HE.out]; rfl, rfl⟩
      · have st := str_ne he
        have HE := Lib.hid he
        clear he
        go_wp2_with fail
        refine (refLaid_any _ _ hs2).mono ?_
        rintro e w1 ⟨rfl, rfl⟩
        go_wp2_with fail
        go_ret2
        exact ⟨by rw [decide_eq_false HE.out]; rfl, rfl⟩
/-- The document's page of nine sectors is the program's. -/
theorem refPage_secs (l : List ByteArray) (w : World) (hl : l.length = 9) (hz : ∀ s ∈ l, s.size = 64) :
    Calls Try.prog 38 #[.string (secsS l)] w fun e w' => e = .returned (.tuple #[.string (joinP l), .bool (joinOk l)]) ∧ w = w' := by
  have h := refPage_any (secsS l) w (secsS_size hl hz)
  rw [bare_join hl hz] at h
  have e : decide (laidS (joinP l) = secsS l) = joinOk l := by
    have := laid_join hl hz
    cases hj : joinOk l
    · rw [decide_eq_false]; intro h'; rw [this.1 h'] at hj; cases hj
    · exact decide_eq_true (this.2 hj)
  rwa [e] at h

end Go.Proofs.Ytfnfapgmicmegaa
