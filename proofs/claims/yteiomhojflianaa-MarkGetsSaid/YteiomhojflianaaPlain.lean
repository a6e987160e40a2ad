/- Plain facts on bytes and numbers: no program in sight. -/
import Derived.WalkKit
import Derived.Deep.QuietTactic
import Derived.Test.YteiomhojflianaaKit
namespace Go.Proofs.Yteiomhojflianaa
open Go.RowKit
set_option linter.unusedVariables false

/-- The world behind some draws. -/
def Drawn (w w' : World) : Prop := ∃ q, w' = w.drewN q
theorem Drawn.refl (w : World) : Drawn w w := ⟨0, rfl⟩
theorem Drawn.twice (w : World) (a b : Nat) : Drawn w ((w.drewN a).drewN b) := ⟨a + b, World.drewN_drewN _ _ _⟩
theorem Drawn.below {w w' : World} (h : Drawn w w') : Below w.heap.size w w' := by obtain ⟨q, rfl⟩ := h; exact ⟨rfl, rfl, rfl, Nat.le_refl _, fun _ _ => rfl⟩
theorem below_drewN {B : Nat} {a w : World} (h : Below B a w) (q : Nat) : Below B a (w.drewN q) := ⟨h.os, h.tape, h.output, h.size, h.block⟩

/-- Byte j of n. -/
def byteAt (n : Int) (j : Nat) : Int := n / 2 ^ (8 * j) % 256
/-- The lowest k bytes of n, the lowest first. -/
def leB (n : Int) (k : Nat) : List UInt8 := (List.range k).map fun t => UInt8.ofNat (byteAt n t).toNat
/-- The string of these bytes. -/
def S (l : List UInt8) : ByteArray := ⟨l.toArray⟩
/-- The cells after j rounds. -/
def putCells (n : Int) (k j : Nat) : List Value := (List.range k).map fun t => .int .u8 (if t < j then byteAt n t else 0)

theorem byteAt_bd (n : Int) (j : Nat) : 0 ≤ byteAt n j ∧ byteAt n j < 256 := by unfold byteAt; omega
theorem leB_length (n : Int) (k : Nat) : (leB n k).length = k := by simp [leB]
theorem putCells_zero (n : Int) (k : Nat) : putCells n k 0 = List.replicate k (.int .u8 0) := by
  apply List.ext_getElem (by simp [putCells])
  intro i h1 h2
  simp [putCells]
theorem putCells_get (n : Int) (k j : Nat) (h : j < k) : (putCells n k j)[j]? = some (.int .u8 0) := by
  simp [putCells, h]
theorem putCells_set (n : Int) (k j : Nat) : (putCells n k j).set j (.int .u8 (n / 2 ^ (8 * j) % 256)) = putCells n k (j + 1) := by
  apply List.ext_getElem (by simp [putCells])
  intro i h1 h2
  simp only [List.getElem_set, putCells, List.getElem_map, List.getElem_range]
  by_cases hij : j = i
  · subst hij; simp [byteAt]
  · by_cases hlt : i < j
    · simp [hij, hlt, Nat.lt_succ_of_lt hlt]
    · have : ¬ i < j + 1 := by omega
      simp [hij, hlt, this]
theorem putCells_all (n : Int) (k t : Nat) (h : t < k) : (putCells n k k)[t]? = some (.int .u8 ((leB n k)[t]'(by rw [leB_length]; exact h)).toNat) := by
  have hb := byteAt_bd n t
  have hm : (byteAt n t).toNat % 256 = (byteAt n t).toNat := by omega
  simp [putCells, leB, h, Int.toNat_of_nonneg hb.1, hm]

/-- The number of bytes, the lowest first. -/
def leN : List UInt8 → Int
  | [] => 0
  | b :: l => b.toNat + 256 * leN l

theorem leN_bd : ∀ l : List UInt8, 0 ≤ leN l ∧ leN l < 256 ^ l.length
  | [] => by simp [leN]
  | b :: l => by
    have h := leN_bd l
    have hb := b.toNat_lt
    simp only [leN, List.length_cons, Int.pow_succ]
    omega
/-- The bytes from a to a + k. -/
def cut (s : ByteArray) (a k : Nat) : List UInt8 := (s.data.toList.drop a).take k
theorem cut_cons (s : ByteArray) (a k : Nat) (h : a < s.size) : cut s a (k + 1) = s[a] :: cut s (a + 1) k := by
  unfold cut
  rw [List.drop_eq_getElem_cons (by simpa using h)]
  rfl
theorem cut_length (s : ByteArray) (a k : Nat) (h : a + k ≤ s.size) : (cut s a k).length = k := by
  simp [cut]; omega
theorem pow_le (j : Nat) (h : j ≤ 7) : (256 : Int) ^ j ≤ 72057594037927936 := by
  rcases j with _ | _ | _ | _ | _ | _ | _ | _ | j <;> first | decide | omega
theorem cut_leN (s : ByteArray) (a k : Nat) (hk : k ≤ 7) : 0 ≤ leN (cut s a k) ∧ leN (cut s a k) < 72057594037927936 := by
  have h := leN_bd (cut s a k)
  have hl : (cut s a k).length ≤ 7 := by unfold cut; simp; omega
  have := pow_le _ hl
  omega
theorem or_byte (x : Int) (b : UInt8) (h0 : 0 ≤ x) (h1 : x < 72057594037927936) : bits .or .u64 (x * 256) (IntKind.u64.wrap b.toNat) = b.toNat + 256 * x := by
  have hb := b.toNat_lt
  rw [IntKind.wrap_u64, Int.emod_eq_of_lt (by omega) (by omega), u64_or _ _ (by omega) (by omega) (by omega) (by omega), nat_join 8 _ _ (by omega) (by omega)]
  omega

/-! Strings as lists of bytes. -/
theorem S_append (a b : List UInt8) : S a ++ S b = S (a ++ b) := by
  apply ByteArray.ext; simp [S, ByteArray.data_append]
theorem S_data (s : ByteArray) : S s.data.toList = s := by
  apply ByteArray.ext; simp [S]
theorem data_S (l : List UInt8) : (S l).data.toList = l := by simp [S]
theorem S_size (l : List UInt8) : (S l).size = l.length := by simp [S, ByteArray.size]
theorem S_inj {a b : List UInt8} : S a = S b ↔ a = b := by
  constructor
  · intro h; rw [← data_S a, h, data_S]
  · intro h; rw [h]
theorem append_S (s : ByteArray) (l : List UInt8) : s ++ S l = S (s.data.toList ++ l) := by
  conv => lhs; rw [← S_data s]
  exact S_append _ _
theorem S_append_s (s : ByteArray) (l : List UInt8) : S l ++ s = S (l ++ s.data.toList) := by
  conv => lhs; rw [← S_data s]
  exact S_append _ _

theorem leN_inj : ∀ {a b : List UInt8}, a.length = b.length → leN a = leN b → a = b
  | [], [], _, _ => rfl
  | x :: a, y :: b, hl, h => by
    have hx := x.toNat_lt
    have hy := y.toNat_lt
    simp only [leN] at h
    have h1 : x.toNat = y.toNat := by omega
    have h2 : leN a = leN b := by omega
    rw [leN_inj (by simpa using hl) h2, UInt8.toNat_inj.1 h1]
theorem extract_cut (s : ByteArray) (a b : Nat) : s.extract a b = S (cut s a (b - a)) := by
  apply ByteArray.ext; apply Array.toList_inj.1
  simp [S, cut, ByteArray.data_extract, Array.toList_extract, List.extract_eq_take_drop]

/-! A sector as a mark. -/
def mOk (s : ByteArray) : Bool := decide (s.size = 64 ∧ cut s 0 8 = cut s 56 8)
def mN (s : ByteArray) : Int := if mOk s then leN (cut s 0 8) else 0
def mT (s : ByteArray) : ByteArray := if mOk s then s.extract 8 56 else ⟨#[]⟩
theorem mOk_iff (s : ByteArray) : mOk s = true ↔ s.size = 64 ∧ cut s 0 8 = cut s 56 8 := by simp [mOk]
theorem mOk_size (s : ByteArray) (h : s.size ≠ 64) : mOk s = false := by simp [mOk, h]
theorem mOk_yes (s : ByteArray) (h : s.size = 64) (e : leN (cut s 0 8) = leN (cut s 56 8)) : mOk s = true :=
  (mOk_iff s).2 ⟨h, leN_inj (by rw [cut_length s 0 8 (by omega), cut_length s 56 8 (by omega)]) e⟩
theorem mOk_no (s : ByteArray) (e : leN (cut s 0 8) ≠ leN (cut s 56 8)) : mOk s = false := by
  rw [← Bool.not_eq_true, mOk_iff]; rintro ⟨_, h⟩; exact e (by rw [h])

end Go.Proofs.Yteiomhojflianaa
