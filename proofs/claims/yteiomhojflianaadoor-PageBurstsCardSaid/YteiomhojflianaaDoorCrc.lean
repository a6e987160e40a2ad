/- The contract of crc.Sum. -/
import Derived.Test.YteiomhojflianaaDoorWord
import Derived.Test.YteiomhojflianaaDoorCrcPlain
namespace Go.Proofs.YteiomhojflianaaDoor
open Go.RowKit
set_option linter.unusedVariables false

/-- What has been reckoned behind j parts. -/
def crcPart (s : ByteArray) (j : Nat) : Nat := if j = 0 then 4294967295 else crcL s.data.toList

set_option maxHeartbeats 1000000 in
/-- crc.Sum of one part. -/
theorem crcSum_any (s : ByteArray) (b : Nat) (w : World) (hc : w.cell? ⟨b, 0, none⟩ = some (.string s)) (hs : s.size ≤ 9223372036854775807) :
    Calls Tryd.prog 19 #[.slice (some ⟨b, 0, none⟩) 1 1] w fun e w' => e = .returned (.int .u32 (crcV s)) ∧ w = w' := by
  go_enter Tryd.func19, Tryd.ntmps19
  go_wp2
  go_loop [3, 10] (fun r c => ∃ j : Nat, j ≤ 1 ∧ c = .int .i64 j ∧ r = .int .u32 (crcPart s j : Nat)) (fun _ c => 1 - (intOf c).toNat)
  case atStart => exact ⟨0, Nat.zero_le _, rfl, rfl⟩
  case round =>
    obtain ⟨j, hj, rfl, rfl⟩ := hrel
    by_cases h0 : j = 0
    · subst h0
      go_wp2
      go_loop [3, 16] (fun r c => ∃ i : Nat, i ≤ s.size ∧ c = .int .i64 i ∧ r = .int .u32 (crcTo s i : Nat)) (fun _ c => s.size - (intOf c).toNat)
      case atStart => exact ⟨0, Nat.zero_le _, rfl, rfl⟩
      case round =>
        obtain ⟨i, hi, rfl, rfl⟩ := hrel
        have ht := crcTo_lt s i
        by_cases hlt : i < s.size
        · have x1 := xor_u32 (crcTo s i) s[i] ht
          have X1 := Lib.hid x1
          have X2 := Lib.hid (crcTo_step s i hlt)
          have ht' := xor_byte_lt (crcTo s i) s[i] ht
          clear x1 ht
          go_wp2
          go_loop [3, 25] (fun r c => ∃ k : Nat, k ≤ 8 ∧ c = .int .i64 k ∧ r = .int .u32 (crcN k (crcTo s i ^^^ s[i].toNat) : Nat)) (fun _ c => 8 - (intOf c).toNat)
          case atStart => exact ⟨0, Nat.zero_le _, rfl, by rw [X1.out]; rfl⟩
          case round =>
            obtain ⟨k, hk, rfl, rfl⟩ := hrel
            have hkt := crcN_lt k _ ht'
            have K1 := Lib.hid (crcBit_step _ hkt)
            by_cases hkl : k < 8
            · clear hkt ht'
              go_wp2
              go_round
              case rel => exact ⟨k + 1, by omega, by go_num, by rw [K1.out]; rfl⟩
              case measure => simp [intOf]; omega
            · obtain rfl : k = 8 := by omega
              clear hkt ht'
              go_wp2
              go_round
              case rel => exact ⟨i + 1, by omega, by go_num, by rw [X2.out]⟩
              case measure => simp [intOf]; omega
        · obtain rfl : i = s.size := by omega
          go_wp2
          go_round
          case rel => exact ⟨1, by omega, by go_num, by rw [crcTo_all]; rfl⟩
          case measure => simp [intOf]
    · obtain rfl : j = 1 := by omega
      have E := Lib.hid (crc_end s)
      go_wp2
      go_ret
      exact ⟨by rw [← E.out]; rfl, rfl⟩

end Go.Proofs.YteiomhojflianaaDoor
