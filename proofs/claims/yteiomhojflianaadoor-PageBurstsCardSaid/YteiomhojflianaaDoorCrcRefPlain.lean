/- The reference's sum, bit by bit, is the same number. -/
import Derived.Test.YteiomhojflianaaDoorCrcPlain
namespace Go.Proofs.YteiomhojflianaaDoor
open Go.RowKit
set_option linter.unusedVariables false

theorem xor_even (x y : Nat) : (x ^^^ 2 * y) % 2 = x % 2 ∧ (x ^^^ 2 * y) / 2 = x / 2 ^^^ y := by
  constructor
  · rw [← Nat.and_one_is_mod, ← Nat.and_one_is_mod]
    apply Nat.eq_of_testBit_eq; intro i
    rcases i with _ | i
    · simp [Nat.testBit_xor, Nat.testBit_and, Nat.testBit_zero]
    · simp [Nat.testBit_and, Nat.testBit_succ]
  · apply Nat.eq_of_testBit_eq; intro i
    have h (z : Nat) : (z / 2).testBit i = z.testBit (i + 1) := by rw [Nat.testBit_succ]
    rw [h, Nat.testBit_xor, Nat.testBit_xor, h]
    congr 1
    rw [Nat.testBit_succ]; congr 1; omega
theorem crcBit_even (x y : Nat) : crcBit (x ^^^ 2 * y) = crcBit x ^^^ y := by
  unfold crcBit
  rw [(xor_even x y).1, (xor_even x y).2]
  split
  · rw [Nat.xor_assoc, Nat.xor_comm y, ← Nat.xor_assoc]
  · rfl
theorem xor_low (c : Nat) : c ^^^ (c % 2) = 2 * (c / 2) := by
  apply Nat.eq_of_testBit_eq; intro i
  rcases i with _ | i
  · simp [Nat.testBit_zero]
  · rw [Nat.testBit_xor, Nat.testBit_succ, Nat.testBit_succ, Nat.testBit_succ, show c % 2 / 2 = 0 by omega, show 2 * (c / 2) / 2 = c / 2 by omega]; simp
/-- What the reference holds behind k bits of a byte b. -/
def refSt (r b k : Nat) : Nat := crcN k (r ^^^ b) ^^^ (b / 2 ^ k)
theorem refSt_zero (r b : Nat) : refSt r b 0 = r := by
  unfold refSt crcN
  rw [Nat.pow_zero, Nat.div_one, Nat.xor_assoc, Nat.xor_self, Nat.xor_zero]
theorem refSt_eight (r : Nat) (b : UInt8) : refSt r b.toNat 8 = crcByte r b := by
  have := b.toNat_lt
  unfold refSt crcByte
  rw [show b.toNat / 2 ^ 8 = 0 by omega, Nat.xor_zero]
theorem refSt_step (r b k : Nat) : refSt r b (k + 1) = crcBit (refSt r b k ^^^ (b / 2 ^ k % 2)) := by
  unfold refSt
  rw [Nat.xor_assoc, xor_low, crcBit_even, Nat.pow_succ, ← Nat.div_div_eq_div_mul]
  rfl
theorem refSt_lt (r b k : Nat) (hr : r < 4294967296) (hb : b < 256) : refSt r b k < 4294967296 := by
  unfold refSt
  have h1 : b / 2 ^ k ≤ b := Nat.div_le_self _ _
  exact Nat.xor_lt_two_pow (n := 32) (crcN_lt _ _ (Nat.xor_lt_two_pow (n := 32) hr (by omega))) (by omega)
/-- Is the bit that goes out set? -/
def refOut (z c : Nat) : Bool := z.testBit 0 != (c % 2 == 1)
theorem refOut_eq (z c : Nat) : crcBit (z ^^^ (c % 2)) = if refOut z c then z / 2 ^^^ 3988292384 else z / 2 := by
  unfold crcBit refOut
  have h1 : (z ^^^ (c % 2)) / 2 = z / 2 := by
    apply Nat.eq_of_testBit_eq; intro i
    have h (z : Nat) : (z / 2).testBit i = z.testBit (i + 1) := by rw [Nat.testBit_succ]
    rw [h, h, Nat.testBit_xor]
    have : (c % 2).testBit (i + 1) = false := by rw [Nat.testBit_succ, show c % 2 / 2 = 0 by omega, Nat.zero_testBit]
    rw [this, Bool.xor_false]
  have h2 : ((z ^^^ (c % 2)) % 2 = 1) ↔ (z.testBit 0 != (c % 2 == 1)) = true := by
    have h3 : ((z ^^^ (c % 2)) % 2 = 1) ↔ (z ^^^ (c % 2)).testBit 0 = true := by rw [Nat.testBit_zero]; simp
    rw [h3, Nat.testBit_xor, Nat.testBit_zero (c % 2)]
    have : c % 2 % 2 = c % 2 := by omega
    rw [this]
    rcases Nat.mod_two_eq_zero_or_one c with e | e <;> rw [e] <;> cases z.testBit 0 <;> simp
  rw [h1]
  by_cases h : (z.testBit 0 != (c % 2 == 1)) = true
  · rw [if_pos (h2.2 h), if_pos h]
  · rw [if_neg (fun e => h (h2.1 e)), if_neg h]
/-- What is left of the byte. -/
def refB (b k : Nat) : Nat := b / 2 ^ k
theorem refB_half (b k : Nat) : refB b k / 2 = refB b (k + 1) := by unfold refB; rw [Nat.div_div_eq_div_mul, Nat.pow_succ]
theorem refB_lt (b k : Nat) (h : b < 256) : refB b k < 256 := by unfold refB; have := Nat.div_le_self b (2 ^ k); omega
theorem refSt_next (r b k : Nat) : refSt r b (k + 1) = if refOut (refSt r b k) (refB b k) then refSt r b k / 2 ^^^ 3988292384 else refSt r b k / 2 := by
  rw [refSt_step]; exact refOut_eq _ _
theorem refOut_walk (z c : Nat) : (!(z.testBit 0 == ((c : Int) % 2 == 1))) = refOut z c := by
  unfold refOut
  have : ((c : Int) % 2 == 1) = (c % 2 == 1) := by
    rcases Nat.mod_two_eq_zero_or_one c with h | h
    · have h' : (c : Int) % 2 = 0 := by omega
      rw [h, h']; rfl
    · have h' : (c : Int) % 2 = 1 := by omega
      rw [h, h']; rfl
  rw [this]; rfl
theorem pBit (j : Nat) : ((3988292384 / 2 ^ j % 2 : Nat) == 1) = (3988292384 : Nat).testBit j := by
  rw [Nat.testBit_eq_decide_div_mod_eq]; rfl
theorem pow_p (j : Nat) : (3988292384 / 2 ^ j : Nat) / 2 = 3988292384 / 2 ^ (j + 1) := by rw [Nat.div_div_eq_div_mul, Nat.pow_succ]
/-- The polynomial behind j halvings. -/
def polyB (j : Nat) : Nat := 3988292384 / 2 ^ j
theorem polyB_half (j : Nat) : polyB j / 2 = polyB (j + 1) := pow_p j
theorem polyB_lt (j : Nat) : polyB j < 4294967296 := by unfold polyB; have := Nat.div_le_self 3988292384 (2 ^ j); omega
theorem polyB_bit (j : Nat) : ((polyB j : Int) % 2 == 1) = (3988292384 : Nat).testBit j := by
  rw [← pBit]
  show _ = (polyB j % 2 == 1)
  rcases Nat.mod_two_eq_zero_or_one (polyB j) with h | h
  · have h' : (polyB j : Int) % 2 = 0 := by omega
    rw [h, h']; rfl
  · have h' : (polyB j : Int) % 2 = 1 := by omega
    rw [h, h']; rfl
/-- The row while it is shifted. -/
def shB (z j i : Nat) : Bool := if i < j then z.testBit (i + 1) else z.testBit i
theorem shB_next (z j : Nat) : shB z j (j + 1) = z.testBit (j + 1) := by unfold shB; rw [if_neg (by omega)]
theorem shB_zero (z i : Nat) : shB z 0 i = z.testBit i := by simp [shB]
theorem shB_step (z j i : Nat) : (if i = j then z.testBit (j + 1) else shB z j i) = shB z (j + 1) i := by
  unfold shB
  by_cases h : i = j
  · subst h; simp
  · by_cases h1 : i < j
    · simp [h, h1, show i < j + 1 by omega]
    · simp [h, h1, show ¬ i < j + 1 by omega]
theorem shB_end (z i : Nat) (hz : z < 4294967296) (hi : i < 32) : (if i = 31 then false else shB z 31 i) = (z / 2).testBit i := by
  have h : (z / 2).testBit i = z.testBit (i + 1) := by rw [Nat.testBit_succ]
  rw [h]
  unfold shB
  by_cases h1 : i = 31
  · subst h1; rw [if_pos rfl, Nat.testBit_lt_two_pow (i := 31 + 1) (by omega)]
  · rw [if_neg h1, if_pos (by omega)]
/-- The row while it is turned. -/
def tuB (z j i : Nat) : Bool := if i < j then z.testBit i != (3988292384 : Nat).testBit i else z.testBit i
theorem tuB_zero (z i : Nat) : tuB z 0 i = z.testBit i := by simp [tuB]
theorem tuB_yes (z j i : Nat) (h : (3988292384 : Nat).testBit j = true) : (if i = j then !z.testBit j else tuB z j i) = tuB z (j + 1) i := by
  unfold tuB
  by_cases e : i = j
  · subst e; simp [h]
  · by_cases h1 : i < j
    · simp [e, h1, show i < j + 1 by omega]
    · simp [e, h1, show ¬ i < j + 1 by omega]
theorem tuB_no (z j i : Nat) (h : (3988292384 : Nat).testBit j = false) : tuB z j i = tuB z (j + 1) i := by
  unfold tuB
  by_cases e : i = j
  · subst e; simp [h]
  · by_cases h1 : i < j
    · simp [h1, show i < j + 1 by omega]
    · simp [h1, show ¬ i < j + 1 by omega]
theorem tuB_at (z j : Nat) : tuB z j j = z.testBit j := by simp [tuB]
theorem tuB_end (z i : Nat) (hi : i < 32) : tuB z 32 i = (z ^^^ 3988292384).testBit i := by
  unfold tuB; rw [if_pos hi, Nat.testBit_xor]
/-- The number out of the turned bits. -/
def outN (r t : Nat) : Nat := (4294967295 - r) / 2 ^ t
theorem out_bit (r t : Nat) (hr : r < 4294967296) (ht : t < 32) : (4294967295 - r).testBit t = !r.testBit t := by
  have h := Nat.testBit_two_pow_sub_succ (n := 32) (show r < 2 ^ 32 by omega) t
  rw [show 2 ^ 32 - (r + 1) = 4294967295 - r by omega] at h
  rw [h]; simp [ht]
theorem outN_step (r t : Nat) (hr : r < 4294967296) (ht : t < 32) : outN r t = 2 * outN r (t + 1) + if r.testBit t then 0 else 1 := by
  have hb := out_bit r t hr ht
  unfold outN
  have h1 : (4294967295 - r) / 2 ^ (t + 1) = (4294967295 - r) / 2 ^ t / 2 := by rw [Nat.pow_succ, Nat.div_div_eq_div_mul]
  rw [Nat.testBit_eq_decide_div_mod_eq] at hb
  rw [h1]
  generalize (4294967295 - r) / 2 ^ t = y at *
  cases hr' : r.testBit t <;> rw [hr'] at hb <;> simp at hb ⊢ <;> omega
theorem outN_top (r : Nat) : outN r 32 = 0 := by unfold outN; exact Nat.div_eq_of_lt (by omega)
theorem outN_lt (r t : Nat) : outN r t < 4294967296 := by
  unfold outN
  have := Nat.div_le_self (4294967295 - r) (2 ^ t)
  omega
theorem outN_all (s : ByteArray) : ((outN (crcL s.data.toList) 0 : Nat) : Int) = crcV s := by
  have := crcL_lt s.data.toList
  unfold outN crcV
  rw [Nat.pow_zero, Nat.div_one]; omega
theorem outN_half (r t : Nat) (h : t < 32) : 2 * outN r (t + 1) + 1 < 4294967296 := by
  have h1 : outN r (t + 1) ≤ (4294967295 - r) / 2 := by
    unfold outN
    rw [Nat.pow_succ, Nat.mul_comm, ← Nat.div_div_eq_div_mul]
    exact Nat.div_le_self _ _
  omega
theorem ones_bit (i : Nat) (h : i < 32) : (4294967295 : Nat).testBit i = true := by
  have := Nat.testBit_two_pow_sub_one 32 i
  rw [show 2 ^ 32 - 1 = 4294967295 from rfl] at this
  rw [this]; simp [h]

end Go.Proofs.YteiomhojflianaaDoor
