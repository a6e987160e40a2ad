/- The contracts of package word. -/
import Derived.Test.YtfnfapgmicmegaaRows
import Derived.Test.YtfnfapgmicmegaaPlain
import Derived.WalkSpells
import Derived.WalkLawsBesides
import Derived.Outline
namespace Go.Proofs.Ytfnfapgmicmegaa
open Go.RowKit
set_option linter.unusedVariables false

theorem Try.infoByte : (Try.prog.info? 5).map (fun i => (i.zero, i.size, i.bytes)) = some (some (.int .u8 0), 1, 1) := by kernel_rfl

set_option maxRecDepth 100000 in
set_option maxHeartbeats 400000 in
/-- word.Put at a size from 0 to 8. -/
theorem put_any (n : Int) (k : Nat) (w : World) (hk : k ≤ 8) (hn : 0 ≤ n) :
    Calls Try.prog 54 #[.int .u64 n, .int .i64 k] w fun e w' => e = .returned (.string (S (leB n k))) ∧ Below w.heap.size w w' := by
  obtain ⟨i0, hi, hz0, hz1, hz2⟩ := info_parts Try.infoByte
  go_enter Try.func54, Try.ntmps54
  go_wp2_with (first
    | (at_make; refine wpList_make_full _ rfl (.tmp 13) (.tmp 13) 71 rfl w.heap.size 5 i0 (.int .u8 0) 1 Try.underlying71 hi hz0 hz1 .i64 .i64 k k k rfl rfl rfl rfl (by rw [hz2]; omega) (by unfold maxLen; omega) (Nat.le_refl _) ?_; intro w1 hown hgr))
  have hb : Below w.heap.size w w1 := (Below.refl _ _).grown hgr (Nat.le_refl _) (by intro k h; cases h)
  clear hgr
  go_loopw [6, 16] (fun _ c wr => ∃ j : Nat, j ≤ k ∧ c = .int .i64 j ∧ wr.ownsRow w.heap.size 5 1 (.slice (some ⟨w.heap.size, 0, none⟩) k k) k (putCells n k j) ∧ Below w.heap.size w wr) (fun _ c _ => k - (intOf c).toNat)
  case atStart =>
    refine ⟨0, Nat.zero_le _, rfl, ?_, hb⟩
    rw [putCells_zero]
    have h1 := toList_madeCells_one (Value.int .u8 0) k
    have h2 : (Value.int .u8 0).cells = #[Value.int .u8 0] := rfl
    rw [h2, Nat.mul_one, h1] at hown
    exact hown
  case round =>
    clear hown hb
    obtain ⟨j, hj, rfl, hown, hb⟩ := hrel
    by_cases hlt : j < k
    · have hf := hown.frozenAt j
      have hcell : wr.cell? ⟨w.heap.size, j, none⟩ = some (.int .u8 0) := by rw [hown.cellAt j (by omega), putCells_get n k j hlt]
      go_wp2
      have hs := (hown.stored j (.int .u8 (n / 2 ^ (8 * j) % 256))).1
      rw [putCells_set] at hs
      go_roundw
      case rel => exact ⟨j + 1, by omega, by go_num, hs, hb.setCell (by simp) _⟩
      case measure => simp [intOf]; omega
    · obtain rfl : j = k := by omega
      have hconv := run_convert_bytes_back (P := Try.prog) wr 71 9 5 ⟨w.heap.size, 0, none⟩ j (leB n j) Try.underlying71 Try.underlying5 Try.underlying9 (by
        intro t ht
        rw [leB_length] at ht
        have : (⟨w.heap.size, 0, none⟩ : Addr).add t = ⟨w.heap.size, t, none⟩ := by unfold Addr.add; split <;> simp_all
        rw [this, hown.cellAt t (by omega), putCells_all n j t ht])
      rw [leB_length] at hconv
      go_wp2
      go_ret
      exact ⟨rfl, hb⟩

set_option maxRecDepth 100000 in
set_option maxHeartbeats 400000 in
/-- word.Get where the place is within. -/
theorem get_any (s : ByteArray) (a k : Nat) (w : World) (hk : k ≤ 8) (ha : a + k ≤ s.size) (hs : s.size ≤ 9223372036854775807) :
    Calls Try.prog 50 #[.string s, .int .i64 a, .int .i64 k] w fun e w' => e = .returned (.tuple #[.int .u64 (leN (cut s a k)), .bool true]) ∧ w = w' := by
  have d1 : decide ((k : Int) < 0) = false := by simp
  have d2 : decide ((8 : Int) < k) = false := by simp; omega
  have d3 : decide ((a : Int) < 0) = false := by simp
  have d4 : decide (s.size < a) = false := by simp; omega
  have d5 : decide ((s.size : Int) - a < k) = false := by simp; omega
  go_enter Try.func50, Try.ntmps50
  go_wp2
  go_loop [8, 9] (fun n i => ∃ j : Nat, j ≤ k ∧ i = .int .i64 ((j : Int) - 1) ∧ n = .int .u64 (leN (cut s (a + j) (k - j)))) (fun _ i => (intOf i + 1).toNat)
  case atStart =>
    refine ⟨k, Nat.le_refl _, rfl, ?_⟩
    have : cut s (a + k) (k - k) = [] := by rw [Nat.sub_self]; unfold cut; rw [List.take_zero]
    rw [this]; rfl
  case round =>
    obtain ⟨j, hj, rfl, rfl⟩ := hrel
    clear d1 d2 d3 d4 d5
    by_cases h0 : 0 < j
    · obtain ⟨j, rfl⟩ : ∃ q, j = q + 1 := ⟨j - 1, by omega⟩
      clear h0
      have hb := cut_leN s (a + (j + 1)) (k - (j + 1)) (by omega)
      go_wp2
      go_round
      case rel =>
        refine ⟨j, by omega, rfl, ?_⟩
        rw [or_byte _ _ hb.1 hb.2, show k - j = (k - (j + 1)) + 1 by omega, cut_cons s (a + j) _ (by omega)]
        rfl
      case measure => simp [intOf]
    · obtain rfl : j = 0 := by omega
      go_wp2
      go_ret2
      exact ⟨by simp, rfl⟩

end Go.Proofs.Ytfnfapgmicmegaa
