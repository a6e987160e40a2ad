/- Bits turned within 32 in a row turn the sum of 32 bits: plain numbers. -/
import Derived.Test.YteiomhojflianaaDoorCrcRefPlain
namespace Go.Proofs.YteiomhojflianaaDoor
open Go.RowKit
set_option linter.unusedVariables false

/-- A row of bytes as one number, the lowest byte first. -/
def lN : List UInt8 → Nat
  | [] => 0
  | b :: l => b.toNat + 256 * lN l
theorem lN_leN : ∀ l : List UInt8, leN l = (lN l : Nat)
  | [] => rfl
  | b :: l => by simp only [leN, lN, lN_leN l]; omega
theorem lN_lt : ∀ l : List UInt8, lN l < 2 ^ (8 * l.length)
  | [] => by simp [lN]
  | b :: l => by
    have h := lN_lt l
    have hb := b.toNat_lt
    simp only [lN, List.length_cons]
    rw [show 8 * (l.length + 1) = 8 * l.length + 8 by omega, Nat.pow_add]
    omega
theorem lN_inj : ∀ {a b : List UInt8}, a.length = b.length → lN a = lN b → a = b
  | [], [], _, _ => rfl
  | x :: a, y :: b, hl, h => by
    have hx := x.toNat_lt
    have hy := y.toNat_lt
    simp only [lN] at h
    have h1 : x.toNat = y.toNat := by omega
    have h2 : lN a = lN b := by omega
    rw [lN_inj (by simpa using hl) h2, UInt8.toNat_inj.1 h1]
theorem lN_append (a b : List UInt8) : lN (a ++ b) = lN a + 2 ^ (8 * a.length) * lN b := by
  induction a with
  | nil => simp [lN]
  | cons x a ih =>
    simp only [List.cons_append, lN, ih, List.length_cons]
    rw [show 8 * (a.length + 1) = 8 + 8 * a.length by omega, Nat.pow_add, Nat.mul_add, Nat.mul_assoc]
    omega
theorem lN_take (l : List UInt8) (k : Nat) (h : k ≤ l.length) : lN (l.take k) = lN l % 2 ^ (8 * k) := by
  have e := lN_append (l.take k) (l.drop k)
  have hl : (l.take k).length = k := by rw [List.length_take]; omega
  rw [List.take_append_drop, hl] at e
  have := lN_lt (l.take k)
  rw [hl] at this
  rw [e, Nat.add_mul_mod_self_left, Nat.mod_eq_of_lt this]
theorem lN_drop (l : List UInt8) (k : Nat) (h : k ≤ l.length) : lN (l.drop k) = lN l / 2 ^ (8 * k) := by
  have e := lN_append (l.take k) (l.drop k)
  have hl : (l.take k).length = k := by rw [List.length_take]; omega
  rw [List.take_append_drop, hl] at e
  have := lN_lt (l.take k)
  rw [hl] at this
  rw [e, Nat.add_mul_div_left _ _ (Nat.pow_pos (by decide)), Nat.div_eq_of_lt this, Nat.zero_add]

/-- A byte and what stands behind it. -/
theorem cons_xor (b : UInt8) (n : Nat) : b.toNat + 256 * n = b.toNat ^^^ 2 ^ 8 * n := by
  have hb := b.toNat_lt
  apply Nat.eq_of_testBit_eq; intro i
  rw [Nat.testBit_xor, show b.toNat + 256 * n = 2 ^ 8 * n + b.toNat by omega, Nat.testBit_two_pow_mul_add n (by omega : b.toNat < 2 ^ 8)]
  rw [Nat.testBit_two_pow_mul]
  by_cases h : i < 8
  · have : ¬ 8 ≤ i := by omega
    simp [h, this]
  · have h8 : 8 ≤ i := by omega
    have : b.toNat.testBit i = false := Nat.testBit_lt_two_pow (Nat.lt_of_lt_of_le (show b.toNat < 2 ^ 8 by omega) (Nat.pow_le_pow_right (by decide) (by omega)))
    simp [h, h8, this]

/-! The sum's step is linear. -/
theorem crcBit_xor (x y : Nat) : crcBit (x ^^^ y) = crcBit x ^^^ crcBit y := by
  have h2 : (x ^^^ y) / 2 = x / 2 ^^^ y / 2 := by
    apply Nat.eq_of_testBit_eq; intro i
    have h (z : Nat) : (z / 2).testBit i = z.testBit (i + 1) := by rw [Nat.testBit_succ]
    rw [Nat.testBit_xor, h, h, h, Nat.testBit_xor]
  have h1 : (x ^^^ y) % 2 = (x % 2 + y % 2) % 2 := by
    have : ((x ^^^ y) % 2 = 1) ↔ ¬ (x % 2 = y % 2) := by
      have h3 (z : Nat) : (z % 2 = 1) ↔ z.testBit 0 = true := by rw [Nat.testBit_zero]; simp
      rw [h3, Nat.testBit_xor]
      rcases Nat.mod_two_eq_zero_or_one x with hx | hx <;> rcases Nat.mod_two_eq_zero_or_one y with hy | hy <;> simp [Nat.testBit_zero, hx, hy]
    omega
  unfold crcBit
  rw [h1, h2]
  rcases Nat.mod_two_eq_zero_or_one x with hx | hx <;> rcases Nat.mod_two_eq_zero_or_one y with hy | hy <;> simp only [hx, hy] <;> simp
  · rw [Nat.xor_assoc]
  · rw [Nat.xor_assoc, Nat.xor_assoc, Nat.xor_comm 3988292384]
  · rw [Nat.xor_assoc, ← Nat.xor_assoc 3988292384, Nat.xor_comm 3988292384, Nat.xor_assoc, Nat.xor_self, Nat.xor_zero]
theorem crcN_xor (k x y : Nat) : crcN k (x ^^^ y) = crcN k x ^^^ crcN k y := by
  induction k with
  | zero => rfl
  | succ k ih => rw [crcN, ih, crcBit_xor]; rfl
theorem crcN_add (a b r : Nat) : crcN (a + b) r = crcN a (crcN b r) := by
  induction a with
  | zero => rw [Nat.zero_add]; rfl
  | succ a ih => rw [show a + 1 + b = (a + b) + 1 by omega, crcN, ih]; rfl
theorem crcBit_two (y : Nat) : crcBit (2 * y) = y := by
  unfold crcBit; rw [if_neg (by omega)]; omega
theorem crcN_shift (f m : Nat) : crcN f (2 ^ f * m) = m := by
  induction f generalizing m with
  | zero => simp [crcN]
  | succ f ih => rw [crcN, show 2 ^ (f + 1) * m = 2 ^ f * (2 * m) by rw [Nat.pow_succ, Nat.mul_assoc], ih, crcBit_two]
theorem crcBit_ne (r : Nat) (h0 : r ≠ 0) (h : r < 4294967296) : crcBit r ≠ 0 := by
  unfold crcBit
  split
  · intro e
    have : r / 2 = 3988292384 := by
      have := congrArg (· ^^^ 3988292384) e
      simpa [Nat.xor_assoc] using this
    omega
  · omega
theorem crcN_ne (k r : Nat) (h0 : r ≠ 0) (h : r < 4294967296) : crcN k r ≠ 0 := by
  induction k with
  | zero => exact h0
  | succ k ih => exact crcBit_ne _ ih (crcN_lt k r h)
theorem foldl_crc : ∀ (l : List UInt8) (r : Nat), l.foldl crcByte r = crcN (8 * l.length) (r ^^^ lN l)
  | [], r => by simp [lN, crcN]
  | b :: l, r => by
    rw [List.foldl_cons, foldl_crc l, List.length_cons, show 8 * (l.length + 1) = 8 * l.length + 8 by omega, crcN_add]
    congr 1
    rw [lN, cons_xor, ← Nat.xor_assoc, crcN_xor 8 (r ^^^ b.toNat), crcN_shift 8]
    rfl
theorem crcL_eq (l : List UInt8) : crcL l = crcN (8 * l.length) (4294967295 ^^^ lN l) := foldl_crc l _
/-- Bits turned within 32 in a row are told. -/
theorem crcL_turn {a b : List UInt8} (hl : a.length = b.length) {m f : Nat} (hm : m ≠ 0) (hm' : m < 4294967296) (hf : f ≤ 8 * b.length) (h : lN a = lN b ^^^ 2 ^ f * m) : crcL a ≠ crcL b := by
  intro e
  rw [crcL_eq, crcL_eq, hl, h, ← Nat.xor_assoc, crcN_xor _ (4294967295 ^^^ lN b)] at e
  have e2 : crcN (8 * b.length) (2 ^ f * m) = 0 := by
    have := congrArg (crcN (8 * b.length) (4294967295 ^^^ lN b) ^^^ ·) e
    simpa [← Nat.xor_assoc] using this
  rw [show 8 * b.length = (8 * b.length - f) + f by omega, crcN_add, crcN_shift] at e2
  exact crcN_ne _ m hm hm' e2
theorem crcV_turn {s t : ByteArray} (h : crcL s.data.toList ≠ crcL t.data.toList) : crcV s ≠ crcV t := by
  have := crcL_lt s.data.toList
  have := crcL_lt t.data.toList
  unfold crcV; omega

/-! One bit turned in a row. -/
theorem lN_set : ∀ (l : List UInt8) (i j : Nat) (hi : i < l.length) (hj : j < 8), lN (l.set i (UInt8.ofNat (l[i].toNat ^^^ 2 ^ j))) = lN l ^^^ 2 ^ (8 * i + j)
  | b :: l, 0, j, _, hj => by
    have hp : 2 ^ j < 2 ^ 8 := Nat.pow_lt_pow_right (by decide) hj
    have hb := b.toNat_lt
    have hx : b.toNat ^^^ 2 ^ j < 2 ^ 8 := Nat.xor_lt_two_pow (by omega) hp
    have h3 : (UInt8.ofNat (b.toNat ^^^ 2 ^ j)).toNat = b.toNat ^^^ 2 ^ j := by
      rw [UInt8.toNat_ofNat']; exact Nat.mod_eq_of_lt hx
    simp only [List.set_cons_zero, List.getElem_cons_zero, lN]
    rw [cons_xor, cons_xor, h3, Nat.mul_zero, Nat.zero_add, Nat.xor_assoc, Nat.xor_assoc, Nat.xor_comm (2 ^ j)]
  | b :: l, i + 1, j, hi, hj => by
    simp only [List.set_cons_succ, List.getElem_cons_succ, lN]
    rw [lN_set l i j (by simpa using hi) hj, cons_xor, cons_xor, Nat.xor_assoc]
    congr 1
    apply Nat.eq_of_testBit_eq; intro t
    rw [Nat.testBit_xor, Nat.testBit_two_pow_mul, Nat.testBit_two_pow_mul, Nat.testBit_xor, Nat.testBit_two_pow, Nat.testBit_two_pow]
    by_cases h : 8 ≤ t
    · have e : (8 * i + j = t - 8) ↔ (8 * (i + 1) + j = t) := by omega
      simp [h, e]
    · have : ¬ 8 * (i + 1) + j = t := by omega
      simp [h, this]

/-! The mask's bits one by one. -/
theorem mask_yes (m k : Nat) (h : m / 2 ^ k % 2 = 1) : m % 2 ^ (k + 1) = m % 2 ^ k ^^^ 2 ^ k ∧ m % 2 ^ (k + 1) ≠ 0 := by
  have hk : m % 2 ^ k < 2 ^ k := Nat.mod_lt _ (Nat.pow_pos (by decide))
  have e : m % 2 ^ (k + 1) = 2 ^ k * 1 + m % 2 ^ k := by
    rw [Nat.mod_pow_succ, h]; omega
  refine ⟨?_, ?_⟩
  · rw [e]
    apply Nat.eq_of_testBit_eq; intro i
    rw [Nat.testBit_two_pow_mul_add 1 hk, Nat.testBit_xor, Nat.testBit_two_pow]
    by_cases h : i < k
    · have : ¬ k = i := by omega
      simp [h, this]
    · have hz : (m % 2 ^ k).testBit i = false := Nat.testBit_lt_two_pow (Nat.lt_of_lt_of_le hk (Nat.pow_le_pow_right (by decide) (by omega)))
      by_cases h2 : k = i
      · subst h2; simp [hz]
      · have : i - k ≠ 0 := by omega
        have h1 : Nat.testBit 1 (i - k) = false := by
          have := Nat.testBit_lt_two_pow (x := 1) (i := i - k) (Nat.one_lt_two_pow this)
          exact this
        simp [h, hz, h2, h1]
  · have : 0 < 2 ^ k := Nat.pow_pos (by decide)
    omega
theorem mask_no (m k : Nat) (h : m / 2 ^ k % 2 ≠ 1) : m % 2 ^ (k + 1) = m % 2 ^ k := by
  have h0 : m / 2 ^ k % 2 = 0 := by omega
  rw [Nat.mod_pow_succ, h0]; omega

/-- A page in which the bits of m are turned from bit f on. -/
def Turned (s l : List UInt8) (f m : Nat) : Prop := l.length = s.length ∧ lN l = lN s ^^^ 2 ^ f * m
theorem Turned.refl (s : List UInt8) (f : Nat) : Turned s s f 0 := ⟨rfl, by simp⟩
theorem Turned.step {s l : List UInt8} {f m k : Nat} (h : Turned s l f (m % 2 ^ k)) (hb : m / 2 ^ k % 2 = 1) (hi : (f + k) / 8 < l.length) :
    Turned s (l.set ((f + k) / 8) (UInt8.ofNat (l[(f + k) / 8].toNat ^^^ 2 ^ ((f + k) % 8)))) f (m % 2 ^ (k + 1)) := by
  refine ⟨by rw [List.length_set]; exact h.1, ?_⟩
  rw [lN_set l _ _ hi (by omega), h.2, (mask_yes m k hb).1, Nat.xor_assoc]
  congr 1
  apply Nat.eq_of_testBit_eq; intro i
  rw [Nat.testBit_xor, Nat.testBit_two_pow_mul, Nat.testBit_two_pow_mul, Nat.testBit_xor, Nat.testBit_two_pow, Nat.testBit_two_pow, show 8 * ((f + k) / 8) + (f + k) % 8 = f + k by omega]
  by_cases h : f ≤ i
  · have e : (k = i - f) ↔ (f + k = i) := by omega
    simp [h, e]
  · have : ¬ f + k = i := by omega
    simp [h, this]
theorem Turned.none {s l : List UInt8} {f : Nat} (h : Turned s l f 0) : l = s := lN_inj h.1 (by rw [h.2]; simp)
/-- Turned in the sum alone. -/
theorem Turned.sum {s l : List UInt8} {f m : Nat} (h : Turned s l f m) (hl : 4 ≤ s.length) (hm : m ≠ 0) (hb : 2 ^ f * m < 2 ^ 32) : l.drop 4 = s.drop 4 ∧ l.take 4 ≠ s.take 4 := by
  have e : lN (l.drop 4) = lN (s.drop 4) := by
    rw [lN_drop l 4 (by rw [h.1]; exact hl), lN_drop s 4 hl, h.2]
    apply Nat.eq_of_testBit_eq; intro i
    rw [Nat.testBit_div_two_pow, Nat.testBit_div_two_pow, Nat.testBit_xor]
    have : (2 ^ f * m).testBit (8 * 4 + i) = false := Nat.testBit_lt_two_pow (Nat.lt_of_lt_of_le hb (Nat.pow_le_pow_right (by decide) (by omega)))
    have e2 : i + 8 * 4 = 8 * 4 + i := by omega
    first | rw [this, Bool.xor_false] | rw [e2, this, Bool.xor_false]
  have e1 : l.drop 4 = s.drop 4 := lN_inj (by rw [List.length_drop, List.length_drop, h.1]) e
  refine ⟨e1, fun e2 => ?_⟩
  have e3 : l = s := by rw [← List.take_append_drop 4 l, ← List.take_append_drop 4 s, e1, e2]
  have e4 := h.2
  rw [e3] at e4
  have e5 : 2 ^ f * m = 0 := by
    have := congrArg (lN s ^^^ ·) e4
    simpa [← Nat.xor_assoc] using this.symm
  rcases Nat.mul_eq_zero.1 e5 with h' | h'
  · have : 0 < 2 ^ f := Nat.pow_pos (by decide)
    omega
  · exact hm h'
/-- Turned behind the sum alone. -/
theorem Turned.rest {s l : List UInt8} {f m : Nat} (h : Turned s l (32 + f) m) (hl : 4 ≤ s.length) (hm : m ≠ 0) (hm' : m < 4294967296) (hf : 32 + f ≤ 8 * s.length) : l.take 4 = s.take 4 ∧ crcL (l.drop 4) ≠ crcL (s.drop 4) := by
  have hx : 2 ^ (32 + f) * m = 2 ^ 32 * (2 ^ f * m) := by rw [Nat.pow_add, Nat.mul_assoc]
  constructor
  · apply lN_inj (by rw [List.length_take, List.length_take, h.1])
    rw [lN_take l 4 (by rw [h.1]; exact hl), lN_take s 4 hl, h.2, hx]
    apply Nat.eq_of_testBit_eq; intro i
    rw [Nat.testBit_mod_two_pow, Nat.testBit_mod_two_pow, Nat.testBit_xor, Nat.testBit_two_pow_mul]
    by_cases hi : i < 8 * 4
    · have : ¬ 32 ≤ i := by omega
      simp [hi, this]
    · simp [hi]
  · refine crcL_turn (f := f) (by rw [List.length_drop, List.length_drop, h.1]) hm hm' (by rw [List.length_drop]; omega) ?_
    rw [lN_drop l 4 (by rw [h.1]; exact hl), lN_drop s 4 hl, h.2, hx]
    apply Nat.eq_of_testBit_eq; intro i
    rw [Nat.testBit_div_two_pow, Nat.testBit_xor, Nat.testBit_xor, Nat.testBit_div_two_pow, Nat.testBit_two_pow_mul]
    have h1 : 32 ≤ i + 8 * 4 := by omega
    have h2 : i + 8 * 4 - 32 = i := by omega
    simp [h1, h2]

end Go.Proofs.YteiomhojflianaaDoor
