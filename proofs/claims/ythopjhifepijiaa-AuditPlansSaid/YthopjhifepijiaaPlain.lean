/- Plain facts on bytes and numbers: no program in sight. -/
import Derived.WalkKit
import Derived.Deep.QuietTactic
import Derived.Test.YthopjhifepijiaaKit
namespace Go.Proofs.Ythopjhifepijiaa
open Go.RowKit
set_option linter.unusedVariables false

/-- The world behind some draws. -/
def Drawn (w w' : World) : Prop := ∃ q, w' = w.drewN q
theorem Drawn.refl (w : World) : Drawn w w := ⟨0, rfl⟩
theorem Drawn.twice (w : World) (a b : Nat) : Drawn w ((w.drewN a).drewN b) := ⟨a + b, World.drewN_drewN _ _ _⟩
theorem Drawn.below {w w' : World} (h : Drawn w w') : Below w.heap.size w w' := by obtain ⟨q, rfl⟩ := h; exact ⟨rfl, rfl, rfl, Nat.le_refl _, fun _ _ => rfl⟩
theorem below_drewN {B : Nat} {a w : World} (h : Below B a w) (q : Nat) : Below B a (w.drewN q) := ⟨h.os, h.tape, h.output, h.size, h.block⟩

/-- Byte j of n. -/
def byteAt (n : Int) (j : Nat) : Int := n / 2 ^ (8 * j) % 256
/-- The lowest k bytes of n, the lowest first. -/
def leB (n : Int) (k : Nat) : List UInt8 := (List.range k).map fun t => UInt8.ofNat (byteAt n t).toNat
/-- The string of these bytes. -/
def S (l : List UInt8) : ByteArray := ⟨l.toArray⟩
/-- The cells after j rounds. -/
def putCells (n : Int) (k j : Nat) : List Value := (List.range k).map fun t => .int .u8 (if t < j then byteAt n t else 0)

theorem byteAt_bd (n : Int) (j : Nat) : 0 ≤ byteAt n j ∧ byteAt n j < 256 := by unfold byteAt; omega
theorem leB_length (n : Int) (k : Nat) : (leB n k).length = k := by simp [leB]
theorem putCells_zero (n : Int) (k : Nat) : putCells n k 0 = List.replicate k (.int .u8 0) := by
  apply List.ext_getElem (by simp [putCells])
  intro i h1 h2
  simp [putCells]
theorem putCells_get (n : Int) (k j : Nat) (h : j < k) : (putCells n k j)[j]? = some (.int .u8 0) := by
  simp [putCells, h]
theorem putCells_set (n : Int) (k j : Nat) : (putCells n k j).set j (.int .u8 (n / 2 ^ (8 * j) % 256)) = putCells n k (j + 1) := by
  apply List.ext_getElem (by simp [putCells])
  intro i h1 h2
  simp only [List.getElem_set, putCells, List.getElem_map, List.getElem_range]
  by_cases hij : j = i
  · subst hij; simp [byteAt]
  · by_cases hlt : i < j
    · simp [hij, hlt, Nat.lt_succ_of_lt hlt]
    · have : ¬ i < j + 1 := by omega
      simp [hij, hlt, this]
theorem putCells_all (n : Int) (k t : Nat) (h : t < k) : (putCells n k k)[t]? = some (.int .u8 ((leB n k)[t]'(by rw [leB_length]; exact h)).toNat) := by
  have hb := byteAt_bd n t
  have hm : (byteAt n t).toNat % 256 = (byteAt n t).toNat := by omega
  simp [putCells, leB, h, Int.toNat_of_nonneg hb.1, hm]

/-- The number of bytes, the lowest first. -/
def leN : List UInt8 → Int
  | [] => 0
  | b :: l => b.toNat + 256 * leN l

theorem leN_bd : ∀ l : List UInt8, 0 ≤ leN l ∧ leN l < 256 ^ l.length
  | [] => by simp [leN]
  | b :: l => by
    have h := leN_bd l
    have hb := b.toNat_lt
    simp only [leN, List.length_cons, Int.pow_succ]
    omega
/-- The bytes from a to a + k. -/
def cut (s : ByteArray) (a k : Nat) : List UInt8 := (s.data.toList.drop a).take k
theorem cut_cons (s : ByteArray) (a k : Nat) (h : a < s.size) : cut s a (k + 1) = s[a] :: cut s (a + 1) k := by
  unfold cut
  rw [List.drop_eq_getElem_cons (by simpa using h)]
  rfl
theorem cut_length (s : ByteArray) (a k : Nat) (h : a + k ≤ s.size) : (cut s a k).length = k := by
  simp [cut]; omega
theorem pow_le (j : Nat) (h : j ≤ 7) : (256 : Int) ^ j ≤ 72057594037927936 := by
  rcases j with _ | _ | _ | _ | _ | _ | _ | _ | j <;> first | decide | omega
theorem cut_leN (s : ByteArray) (a k : Nat) (hk : k ≤ 7) : 0 ≤ leN (cut s a k) ∧ leN (cut s a k) < 72057594037927936 := by
  have h := leN_bd (cut s a k)
  have hl : (cut s a k).length ≤ 7 := by unfold cut; simp; omega
  have := pow_le _ hl
  omega
theorem or_byte (x : Int) (b : UInt8) (h0 : 0 ≤ x) (h1 : x < 72057594037927936) : bits .or .u64 (x * 256) (IntKind.u64.wrap b.toNat) = b.toNat + 256 * x := by
  have hb := b.toNat_lt
  rw [IntKind.wrap_u64, Int.emod_eq_of_lt (by omega) (by omega), u64_or _ _ (by omega) (by omega) (by omega) (by omega), nat_join 8 _ _ (by omega) (by omega)]
  omega

/-! Strings as lists of bytes. -/
def nul (n : Nat) : List UInt8 := List.replicate n 0
theorem nul_length (n : Nat) : (nul n).length = n := List.length_replicate
theorem S_append (a b : List UInt8) : S a ++ S b = S (a ++ b) := by
  apply ByteArray.ext; simp [S, ByteArray.data_append]
theorem S_data (s : ByteArray) : S s.data.toList = s := by
  apply ByteArray.ext; simp [S]
theorem data_S (l : List UInt8) : (S l).data.toList = l := by simp [S]
theorem S_size (l : List UInt8) : (S l).size = l.length := by simp [S, ByteArray.size]
theorem S_inj {a b : List UInt8} : S a = S b ↔ a = b := by
  constructor
  · intro h; rw [← data_S a, h, data_S]
  · intro h; rw [h]
theorem append_S (s : ByteArray) (l : List UInt8) : s ++ S l = S (s.data.toList ++ l) := by
  conv => lhs; rw [← S_data s]
  exact S_append _ _
theorem S_append_s (s : ByteArray) (l : List UInt8) : S l ++ s = S (l ++ s.data.toList) := by
  conv => lhs; rw [← S_data s]
  exact S_append _ _

theorem leN_inj : ∀ {a b : List UInt8}, a.length = b.length → leN a = leN b → a = b
  | [], [], _, _ => rfl
  | x :: a, y :: b, hl, h => by
    have hx := x.toNat_lt
    have hy := y.toNat_lt
    simp only [leN] at h
    have h1 : x.toNat = y.toNat := by omega
    have h2 : leN a = leN b := by omega
    rw [leN_inj (by simpa using hl) h2, UInt8.toNat_inj.1 h1]
theorem extract_cut (s : ByteArray) (a b : Nat) : s.extract a b = S (cut s a (b - a)) := by
  apply ByteArray.ext; apply Array.toList_inj.1
  simp [S, cut, ByteArray.data_extract, Array.toList_extract, List.extract_eq_take_drop]

/-! A sector as a mark. -/
def mOk (s : ByteArray) : Bool := decide (s.size = 64 ∧ cut s 0 8 = cut s 56 8)
def mN (s : ByteArray) : Int := if mOk s then leN (cut s 0 8) else 0
def mT (s : ByteArray) : ByteArray := if mOk s then s.extract 8 56 else ⟨#[]⟩
theorem mOk_iff (s : ByteArray) : mOk s = true ↔ s.size = 64 ∧ cut s 0 8 = cut s 56 8 := by simp [mOk]
theorem mOk_size (s : ByteArray) (h : s.size ≠ 64) : mOk s = false := by simp [mOk, h]
theorem mOk_yes (s : ByteArray) (h : s.size = 64) (e : leN (cut s 0 8) = leN (cut s 56 8)) : mOk s = true :=
  (mOk_iff s).2 ⟨h, leN_inj (by rw [cut_length s 0 8 (by omega), cut_length s 56 8 (by omega)]) e⟩
theorem mOk_no (s : ByteArray) (e : leN (cut s 0 8) ≠ leN (cut s 56 8)) : mOk s = false := by
  rw [← Bool.not_eq_true, mOk_iff]; rintro ⟨_, h⟩; exact e (by rw [h])

/-! A number's bytes read again. -/
theorem byteAt_succ (n : Int) (j : Nat) (h : 0 ≤ n) : byteAt n (j + 1) = byteAt (n / 256) j := by
  unfold byteAt
  rw [show 8 * (j + 1) = 8 + 8 * j by omega, Int.pow_add, Int.ediv_ediv_of_nonneg (by decide)]
  rfl
theorem leB_cons (n : Int) (k : Nat) (h : 0 ≤ n) : leB n (k + 1) = UInt8.ofNat (n % 256).toNat :: leB (n / 256) k := by
  unfold leB
  rw [List.range_succ_eq_map]
  simp only [List.map_cons, List.map_map, List.cons.injEq]
  refine ⟨by simp [byteAt], ?_⟩
  apply List.map_congr_left
  intro t _
  simp only [Function.comp, Nat.succ_eq_add_one]
  rw [byteAt_succ n t h]
theorem emod_two (n p : Int) : n % (256 * p) = n % 256 + 256 * (n / 256 % p) := by
  rw [Int.emod_def n (256 * p), Int.emod_def (n / 256) p, Int.ediv_ediv_of_nonneg (by decide), Int.mul_sub, Int.mul_assoc]
  generalize p * (n / (256 * p)) = x
  omega
theorem leN_leB : ∀ (k : Nat) (n : Int), 0 ≤ n → leN (leB n k) = n % 256 ^ k
  | 0, n, h => by simp [leB, leN]
  | k + 1, n, h => by
    rw [leB_cons n k h, leN, leN_leB k (n / 256) (by omega)]
    have h1 : (UInt8.ofNat (n % 256).toNat).toNat = (n % 256).toNat := by simp; omega
    rw [h1, Int.toNat_of_nonneg (by omega), Int.pow_succ, Int.mul_comm (256 ^ k) 256]
    exact (emod_two n (256 ^ k)).symm
theorem leN_leB8 (n : Int) (h : 0 ≤ n) (hu : n ≤ 18446744073709551615) : leN (leB n 8) = n := by
  rw [leN_leB 8 n h, Int.emod_eq_of_lt h (by omega)]

/-! A mark's bytes. -/
def mkL (n : Int) (s : ByteArray) : List UInt8 := leB n 8 ++ s.data.toList ++ nul (48 - s.size) ++ leB n 8
def mkStr (n : Int) (s : ByteArray) : ByteArray := S (mkL n s)
theorem data_length (s : ByteArray) : s.data.toList.length = s.size := by simp
theorem mkL_length (n : Int) (s : ByteArray) (h : s.size ≤ 48) : (mkL n s).length = 64 := by
  unfold mkL; simp only [List.length_append, leB_length, nul_length, data_length]; omega
theorem mkStr_size (n : Int) (s : ByteArray) (h : s.size ≤ 48) : (mkStr n s).size = 64 := by
  unfold mkStr; rw [S_size, mkL_length n s h]
theorem mkStr_cut0 (n : Int) (s : ByteArray) : cut (mkStr n s) 0 8 = leB n 8 := by
  unfold mkStr cut mkL; rw [data_S, List.drop_zero, List.append_assoc, List.append_assoc, List.take_left' (leB_length n 8)]
theorem mkStr_cut56 (n : Int) (s : ByteArray) (h : s.size ≤ 48) : cut (mkStr n s) 56 8 = leB n 8 := by
  unfold mkStr cut mkL
  rw [data_S, List.drop_left' (by simp only [List.length_append, leB_length, nul_length, data_length]; omega), List.take_of_length_le (by rw [leB_length]; omega)]
theorem mkStr_mid (n : Int) (s : ByteArray) (h : s.size ≤ 48) : cut (mkStr n s) 8 48 = s.data.toList ++ nul (48 - s.size) := by
  unfold mkStr cut mkL
  rw [data_S, List.append_assoc, List.append_assoc, List.drop_left' (leB_length n 8), ← List.append_assoc, List.take_left' (by simp only [List.length_append, nul_length, data_length]; omega)]
theorem mkStr_Ok (n : Int) (s : ByteArray) (h : s.size ≤ 48) : mOk (mkStr n s) = true :=
  (mOk_iff _).2 ⟨mkStr_size n s h, by rw [mkStr_cut0, mkStr_cut56 n s h]⟩
theorem mkStr_N (n : Int) (s : ByteArray) (h : s.size ≤ 48) (h0 : 0 ≤ n) (hu : n ≤ 18446744073709551615) : mN (mkStr n s) = n := by
  unfold mN; rw [mkStr_Ok n s h, if_pos rfl, mkStr_cut0, leN_leB8 n h0 hu]
theorem mkStr_T (n : Int) (s : ByteArray) (h : s.size ≤ 48) : mT (mkStr n s) = S (s.data.toList ++ nul (48 - s.size)) := by
  unfold mT; rw [mkStr_Ok n s h, if_pos rfl, extract_cut, mkStr_mid n s h]
theorem mkStr_Tsize (n : Int) (s : ByteArray) (h : s.size ≤ 48) : (mT (mkStr n s)).size = 48 := by
  rw [mkStr_T n s h, S_size]; simp only [List.length_append, nul_length, data_length]; omega
theorem mkStr_Ttext (n : Int) (s : ByteArray) (h : s.size ≤ 48) : (mT (mkStr n s)).extract 0 s.size = s := by
  rw [mkStr_T n s h, extract_cut]
  unfold cut
  rw [data_S, List.drop_zero, Nat.sub_zero, List.take_left' (data_length s), S_data]

/-! Torn between two marks. -/
theorem torn_list {L R : List UInt8} (k : Nat) (hL : L.length = 64) (hR : R.length = 64) (hk : k ≤ 64)
    (sL : ∀ j, j < 8 → L[j]? = L[56 + j]?) (sR : ∀ j, j < 8 → R[j]? = R[56 + j]?) (hne : L.take 8 ≠ R.take 8)
    (hu : ∀ j, j < 8 → (L.take k ++ R.drop k)[j]? = (L.take k ++ R.drop k)[56 + j]?) : L.take k ++ R.drop k = L ∨ L.take k ++ R.drop k = R := by
  have g : ∀ i, (L.take k ++ R.drop k)[i]? = if i < k then L[i]? else R[i]? := by
    intro i
    have hl : (L.take k).length = k := by rw [List.length_take]; omega
    split
    · rename_i h
      rw [List.getElem?_append_left (by omega), List.getElem?_take_of_lt h]
    · rename_i h
      rw [List.getElem?_append_right (by omega), List.getElem?_drop, hl, show k + (i - k) = i by omega]
  by_cases h8 : k ≤ 8
  · right
    apply List.ext_getElem?
    intro i
    rw [g]
    split
    · rename_i h
      have := hu i (by omega)
      rw [g, g, if_pos h, if_neg (by omega)] at this
      rw [this, sR i (by omega)]
    · rfl
  · by_cases h56 : 56 ≤ k
    · left
      apply List.ext_getElem?
      intro i
      rw [g]
      split
      · rfl
      · rename_i h
        by_cases hi : i < 64
        · obtain ⟨j, rfl⟩ : ∃ j, i = 56 + j := ⟨i - 56, by omega⟩
          have := hu j (by omega)
          rw [g, g, if_pos (by omega), if_neg h] at this
          rw [← this, sL j (by omega)]
        · rw [List.getElem?_eq_none (by omega), List.getElem?_eq_none (by omega)]
    · exfalso
      apply hne
      apply List.ext_getElem?
      intro j
      by_cases hj : j < 8
      · rw [List.getElem?_take_of_lt hj, List.getElem?_take_of_lt hj]
        have := hu j hj
        rw [g, g, if_pos (by omega), if_neg (by omega)] at this
        rw [this, sR j hj]
      · rw [List.getElem?_eq_none (by rw [List.length_take]; omega), List.getElem?_eq_none (by rw [List.length_take]; omega)]
theorem ends_of_cut {s : ByteArray} (hs : s.size = 64) (h : cut s 0 8 = cut s 56 8) : ∀ j, j < 8 → s.data.toList[j]? = s.data.toList[56 + j]? := by
  intro j hj
  have h1 : (cut s 0 8)[j]? = s.data.toList[j]? := by unfold cut; rw [List.drop_zero, List.getElem?_take_of_lt hj]
  have h2 : (cut s 56 8)[j]? = s.data.toList[56 + j]? := by unfold cut; rw [List.getElem?_take_of_lt hj, List.getElem?_drop]
  rw [← h1, ← h2, h]
def torn (s t : ByteArray) (k : Nat) : ByteArray := s.extract 0 k ++ t.extract k t.size
theorem torn_data (s t : ByteArray) (k : Nat) : (torn s t k).data.toList = s.data.toList.take k ++ t.data.toList.drop k := by
  unfold torn
  rw [extract_cut, extract_cut, S_append, data_S]
  unfold cut
  rw [List.drop_zero, Nat.sub_zero, List.take_of_length_le (l := List.drop k t.data.toList) (by rw [List.length_drop, data_length]; omega)]
theorem torn_law (m n : Int) (a b : ByteArray) (k : Nat) (ha : a.size ≤ 48) (hb : b.size ≤ 48) (hm : 0 ≤ m) (hm' : m ≤ 18446744073709551615) (hn : 0 ≤ n) (hn' : n ≤ 18446744073709551615) (hk : k ≤ 64) (hne : m ≠ n)
    (h : mOk (torn (mkStr m a) (mkStr n b) k) = true) : torn (mkStr m a) (mkStr n b) k = mkStr m a ∨ torn (mkStr m a) (mkStr n b) k = mkStr n b := by
  obtain ⟨hz, hc⟩ := (mOk_iff _).1 h
  have e1 := ends_of_cut hz hc
  rw [torn_data] at e1
  have e2 := ends_of_cut (mkStr_size m a ha) (((mOk_iff _).1 (mkStr_Ok m a ha)).2)
  have e3 := ends_of_cut (mkStr_size n b hb) (((mOk_iff _).1 (mkStr_Ok n b hb)).2)
  have e4 : (mkStr m a).data.toList.take 8 ≠ (mkStr n b).data.toList.take 8 := by
    have c1 := mkStr_cut0 m a
    have c2 := mkStr_cut0 n b
    unfold cut at c1 c2
    rw [List.drop_zero] at c1 c2
    rw [c1, c2]
    intro e
    apply hne
    rw [← leN_leB8 m hm hm', ← leN_leB8 n hn hn', e]
  have := torn_list k (by rw [data_length, mkStr_size m a ha]) (by rw [data_length, mkStr_size n b hb]) hk e2 e3 e4 e1
  rw [← torn_data] at this
  rcases this with e | e
  · left; rw [← S_data (torn _ _ _), e, S_data]
  · right; rw [← S_data (torn _ _ _), e, S_data]
theorem torn_size (s t : ByteArray) (k : Nat) (hs : s.size = 64) (ht : t.size = 64) (hk : k ≤ 64) : (torn s t k).size = 64 := by
  rw [← data_length, torn_data, List.length_append, List.length_take, List.length_drop, data_length, data_length]; omega

end Go.Proofs.Ythopjhifepijiaa
