/- The sum of 32 bits, as plain numbers. -/
import Derived.Test.YteiomhojflianaaDoorPlain
namespace Go.Proofs.YteiomhojflianaaDoor
open Go.RowKit
set_option linter.unusedVariables false

/-- One bit. -/
def crcBit (r : Nat) : Nat := if r % 2 = 1 then (r / 2) ^^^ 3988292384 else r / 2
/-- k bits. -/
def crcN : Nat → Nat → Nat
  | 0, r => r
  | k + 1, r => crcBit (crcN k r)
/-- A byte. -/
def crcByte (r : Nat) (b : UInt8) : Nat := crcN 8 (r ^^^ b.toNat)
def crcL (l : List UInt8) : Nat := l.foldl crcByte 4294967295
/-- What has been reckoned behind i bytes. -/
def crcTo (s : ByteArray) (i : Nat) : Nat := crcL (s.data.toList.take i)
/-- The sum. -/
def crcV (s : ByteArray) : Int := 4294967295 - (crcL s.data.toList : Nat)

theorem crcBit_lt (r : Nat) (h : r < 4294967296) : crcBit r < 4294967296 := by
  unfold crcBit
  split
  · exact Nat.xor_lt_two_pow (n := 32) (by omega) (by omega)
  · omega
theorem crcN_lt (k r : Nat) (h : r < 4294967296) : crcN k r < 4294967296 := by
  induction k with
  | zero => exact h
  | succ k ih => exact crcBit_lt _ ih
theorem xor_byte_lt (r : Nat) (b : UInt8) (h : r < 4294967296) : r ^^^ b.toNat < 4294967296 :=
  Nat.xor_lt_two_pow (n := 32) h (by have := b.toNat_lt; omega)
theorem crcByte_lt (r : Nat) (b : UInt8) (h : r < 4294967296) : crcByte r b < 4294967296 := crcN_lt _ _ (xor_byte_lt r b h)
theorem foldl_crc_lt : ∀ (l : List UInt8) (r : Nat), r < 4294967296 → l.foldl crcByte r < 4294967296
  | [], r, h => h
  | b :: l, r, h => foldl_crc_lt l _ (crcByte_lt r b h)
theorem crcL_lt (l : List UInt8) : crcL l < 4294967296 := foldl_crc_lt l _ (by decide)
theorem crcTo_lt (s : ByteArray) (i : Nat) : crcTo s i < 4294967296 := crcL_lt _
theorem crcTo_zero (s : ByteArray) : crcTo s 0 = 4294967295 := rfl
theorem crcTo_all (s : ByteArray) : crcTo s s.size = crcL s.data.toList := by
  unfold crcTo; rw [List.take_of_length_le (by rw [data_length]; omega)]
theorem crcTo_step (s : ByteArray) (i : Nat) (h : i < s.size) : crcN 8 (crcTo s i ^^^ s[i].toNat) = crcTo s (i + 1) := by
  unfold crcTo crcL
  rw [List.take_succ_eq_append_getElem (by simpa using h), List.foldl_append]
  rfl
theorem crcV_bd (s : ByteArray) : 0 ≤ crcV s ∧ crcV s ≤ 4294967295 := by
  have := crcL_lt s.data.toList
  unfold crcV; omega

/-! The walk's own spelling. -/
theorem xor_u32 (r : Nat) (b : UInt8) (h : r < 4294967296) : bits .xor .u32 (r : Int) ((b.toNat : Int) % 4294967296) = ((r ^^^ b.toNat : Nat) : Int) := by
  have hb := b.toNat_lt
  rw [Int.emod_eq_of_lt (by omega) (by omega), u32_xor_nat _ _ h (by omega)]
theorem and_one_u32 (r : Nat) (h : r < 4294967296) : bits .and .u32 (r : Int) 1 = ((r % 2 : Nat) : Int) := by
  have := u32_and_nat r 1 h (by decide)
  rw [show ((1 : Nat) : Int) = 1 from rfl] at this
  rw [this, nat_mask1]
theorem and_full (x : Nat) (h : x < 4294967296) : x &&& 4294967295 = x := by
  have := Nat.and_two_pow_sub_one_eq_mod x 32
  rw [show 2 ^ 32 - 1 = 4294967295 from rfl] at this
  rw [this]; omega
theorem crcBit_step (r : Nat) (h : r < 4294967296) :
    bits .xor .u32 ((r : Int) / 2) (bits .and .u32 3988292384 (-(bits .and .u32 (r : Int) 1) % 4294967296)) = (crcBit r : Nat) := by
  rw [and_one_u32 r h]
  unfold crcBit
  have h2 : (r : Int) / 2 = ((r / 2 : Nat) : Int) := by omega
  rw [h2]
  by_cases h1 : r % 2 = 1
  · rw [h1, if_pos rfl, show -((1 : Nat) : Int) % 4294967296 = ((4294967295 : Nat) : Int) from by decide]
    have := u32_and_nat 3988292384 4294967295 (by decide) (by decide)
    rw [show ((3988292384 : Nat) : Int) = 3988292384 from rfl] at this
    rw [this, and_full _ (by decide), u32_xor_nat _ _ (by omega) (by decide)]
  · rw [show r % 2 = 0 by omega, if_neg (by decide), show -((0 : Nat) : Int) % 4294967296 = ((0 : Nat) : Int) from by decide]
    have := u32_and_nat 3988292384 0 (by decide) (by decide)
    rw [show ((3988292384 : Nat) : Int) = 3988292384 from rfl] at this
    rw [this, Nat.and_zero, u32_xor_nat _ _ (by omega) (by decide), Nat.xor_zero]

theorem not_u32 (x : Nat) (h : x < 4294967296) : 4294967295 ^^^ x = 4294967295 - x := by
  apply Nat.eq_of_testBit_eq; intro i
  have h1 := Nat.testBit_two_pow_sub_succ (n := 32) (show x < 2 ^ 32 by omega) i
  rw [show 2 ^ 32 - (x + 1) = 4294967295 - x by omega] at h1
  have h2 := Nat.testBit_two_pow_sub_one 32 i
  rw [show 2 ^ 32 - 1 = 4294967295 from rfl] at h2
  rw [h1, Nat.testBit_xor, h2]
  by_cases hi : i < 32
  · simp [hi]
  · have : x.testBit i = false := Nat.testBit_lt_two_pow (Nat.lt_of_lt_of_le (show x < 2 ^ 32 by omega) (Nat.pow_le_pow_right (by decide) (by omega)))
    simp [hi, this]
theorem crc_end (s : ByteArray) : bits .xor .u32 IntKind.u32.max (crcL s.data.toList : Nat) = crcV s := by
  have h := crcL_lt s.data.toList
  have := u32_xor_nat 4294967295 _ (by decide) h
  rw [show ((4294967295 : Nat) : Int) = IntKind.u32.max from rfl] at this
  rw [this, not_u32 _ h]
  unfold crcV; omega

end Go.Proofs.YteiomhojflianaaDoor
