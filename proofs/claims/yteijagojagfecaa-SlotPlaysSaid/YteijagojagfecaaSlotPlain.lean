/- Slots, and the room in which they lie: plain facts. No program in sight. -/
import Derived.Test.YteijagojagfecaaPlain
namespace Go.Proofs.Yteijagojagfecaa
open Go.RowKit
set_option linter.unusedVariables false

/-- A slot: is it used, its bytes. -/
abbrev SlotD := Bool × ByteArray
def slotCells (l : List SlotD) : List Value := l.flatMap fun x => [.bool x.1, .string x.2]
theorem slotCells_length (l : List SlotD) : (slotCells l).length = l.length * 2 := by
  induction l with
  | nil => rfl
  | cons x l ih => simp only [slotCells, List.flatMap_cons, List.length_append, List.length_cons, List.length_nil] at ih ⊢; omega
theorem slotCells_get : ∀ (l : List SlotD) (i : Nat) (x : SlotD), l[i]? = some x → (slotCells l)[i * 2]? = some (.bool x.1) ∧ (slotCells l)[i * 2 + 1]? = some (.string x.2)
  | [], i, x, h => by simp at h
  | y :: l, 0, x, h => by
    simp at h; subst h
    simp [slotCells]
  | y :: l, i + 1, x, h => by
    have ih := slotCells_get l i x (by simpa using h)
    have e : slotCells (y :: l) = .bool y.1 :: .string y.2 :: slotCells l := rfl
    rw [e, show (i + 1) * 2 = i * 2 + 1 + 1 by omega]
    exact ih
theorem slotCells_snoc (l : List SlotD) (u : Bool) (s : ByteArray) : slotCells l ++ [.bool u, .string s] = slotCells (l ++ [(u, s)]) := by simp [slotCells]

def emptyB (x : SlotD) : Bool := !x.1 && x.2.data.toList.isEmpty
def badB (x : SlotD) : Bool := !x.1 && !x.2.data.toList.isEmpty
/-- How many are left of the first n, empty ones at the end dropped. -/
def trimLen (l : List SlotD) : Nat → Nat
  | 0 => 0
  | n + 1 => match l[n]? with
    | some x => if emptyB x then trimLen l n else n + 1
    | none => n + 1
def trimS (l : List SlotD) : List SlotD := l.take (trimLen l l.length)
def sumR : List SlotD → Nat
  | [] => 0
  | x :: l => x.2.size + sumR l
def keyS (x : SlotD) : Nat := if x.1 then x.2.size + 1 else 0
def headS (l : List SlotD) : List UInt8 := l.flatMap fun x => leB (keyS x) 2
def tailS (l : List SlotD) : List UInt8 := l.flatMap fun x => x.2.data.toList
def roomS (t : List SlotD) : List UInt8 := leB t.length 2 ++ headS t ++ tailS t ++ nul (494 - 2 * t.length - sumR t)
/-- The room of slots, or the error. -/
def packM (l : List SlotD) : ByteArray × Int :=
  if l.any badB then (⟨#[]⟩, 2) else if 494 < 2 * (trimS l).length + sumR (trimS l) then (⟨#[]⟩, 8) else (S (roomS (trimS l)), 0)

theorem trimLen_le (l : List SlotD) : ∀ n, trimLen l n ≤ n
  | 0 => Nat.le_refl _
  | n + 1 => by
    unfold trimLen
    split
    · split
      · exact Nat.le_succ_of_le (trimLen_le l n)
      · exact Nat.le_refl _
    · exact Nat.le_refl _
theorem trimLen_step {l : List SlotD} {n : Nat} {x : SlotD} (h : l[n]? = some x) (hx : emptyB x = true) : trimLen l (n + 1) = trimLen l n := by
  conv => lhs; unfold trimLen
  rw [h]; simp [hx]
theorem trimLen_stop {l : List SlotD} {n : Nat} {x : SlotD} (h : l[n]? = some x) (hx : emptyB x = false) : trimLen l (n + 1) = n + 1 := by
  conv => lhs; unfold trimLen
  rw [h]; simp [hx]
theorem trimS_length (l : List SlotD) : (trimS l).length = trimLen l l.length := by
  have := trimLen_le l l.length
  simp [trimS]; omega
/-- What trimming drops is empty. -/
theorem trimLen_drop (l : List SlotD) : ∀ n i x, trimLen l n ≤ i → i < n → l[i]? = some x → emptyB x = true
  | 0, i, x, _, h, _ => by omega
  | n + 1, i, x, h1, h2, hx => by
    cases hn : l[n]? with
    | none =>
      have : l.length ≤ n := List.getElem?_eq_none_iff.1 hn
      have := (List.getElem?_eq_some_iff.1 hx).1
      have e : trimLen l (n + 1) = n + 1 := by conv => lhs; unfold trimLen
                                               rw [hn]
      omega
    | some y =>
      cases hy : emptyB y
      · rw [trimLen_stop hn hy] at h1; omega
      · rw [trimLen_step hn hy] at h1
        by_cases e : i = n
        · subst e; rw [hn] at hx; cases hx; exact hy
        · exact trimLen_drop l n i x h1 (by omega) hx
/-- The last one that is left is not empty. -/
theorem trimLen_last (l : List SlotD) : ∀ n k, n ≤ l.length → trimLen l n = k + 1 → ∃ x, l[k]? = some x ∧ emptyB x = false
  | 0, k, _, h => by cases h
  | n + 1, k, hl, h => by
    have hn : l[n]? = some (l[n]'(by omega)) := List.getElem?_eq_getElem _
    cases hy : emptyB (l[n]'(by omega))
    · rw [trimLen_stop hn hy] at h
      obtain rfl : n = k := by omega
      exact ⟨_, hn, hy⟩
    · rw [trimLen_step hn hy] at h
      exact trimLen_last l n k (by omega) h
theorem trimLen_take (l : List SlotD) (m : Nat) : ∀ n, n ≤ m → trimLen (l.take m) n = trimLen l n
  | 0, _ => rfl
  | n + 1, h => by
    unfold trimLen
    rw [List.getElem?_take_of_lt (by omega), trimLen_take l m n (by omega)]
theorem trimLen_self {l : List SlotD} {k : Nat} (h : ∀ j, k = j + 1 → ∃ x, l[j]? = some x ∧ emptyB x = false) : trimLen l k = k := by
  cases k with
  | zero => rfl
  | succ k =>
    obtain ⟨x, hx, he⟩ := h k rfl
    exact trimLen_stop hx he
theorem trimS_trimS (l : List SlotD) : trimS (trimS l) = trimS l := by
  have hl := trimS_length l
  have h1 : trimLen (trimS l) (trimS l).length = (trimS l).length := by
    rw [hl]
    unfold trimS
    rw [trimLen_take _ _ _ (Nat.le_refl _)]
    exact trimLen_self fun j hj => trimLen_last l _ j (Nat.le_refl _) hj
  have e : ∀ m : List SlotD, trimS m = m.take (trimLen m m.length) := fun _ => rfl
  rw [e (trimS l), h1, List.take_length]
theorem bad_not_empty {x : SlotD} (h : badB x = true) : emptyB x = false := by
  unfold badB at h; unfold emptyB
  cases hx : x.1 <;> simp [hx] at h ⊢
  simpa using h
theorem any_bad_trim (l : List SlotD) : (trimS l).any badB = l.any badB := by
  rw [Bool.eq_iff_iff, List.any_eq_true, List.any_eq_true]
  constructor
  · rintro ⟨x, hx, hb⟩
    exact ⟨x, List.mem_of_mem_take hx, hb⟩
  · rintro ⟨x, hx, hb⟩
    obtain ⟨i, hi⟩ := List.mem_iff_getElem?.1 hx
    refine ⟨x, ?_, hb⟩
    by_cases h : i < trimLen l l.length
    · exact List.mem_of_getElem? (by unfold trimS; rw [List.getElem?_take_of_lt h]; exact hi)
    · have := trimLen_drop l l.length i x (by omega) (List.getElem?_eq_some_iff.1 hi).1 hi
      rw [bad_not_empty hb] at this; cases this

theorem sumR_append (a b : List SlotD) : sumR (a ++ b) = sumR a + sumR b := by
  induction a with
  | nil => simp [sumR]
  | cons x a ih => simp only [List.cons_append, sumR, ih]; omega
theorem sumR_snoc (a : List SlotD) (x : SlotD) : sumR (a ++ [x]) = sumR a + x.2.size := by rw [sumR_append]; simp [sumR]
theorem headS_snoc (a : List SlotD) (x : SlotD) : headS (a ++ [x]) = headS a ++ leB (keyS x) 2 := by simp [headS]
theorem tailS_snoc (a : List SlotD) (x : SlotD) : tailS (a ++ [x]) = tailS a ++ x.2.data.toList := by simp [tailS]
theorem headS_length (a : List SlotD) : (headS a).length = 2 * a.length := by
  induction a with
  | nil => rfl
  | cons x a ih => simp only [headS, List.flatMap_cons, List.length_append, leB_length, List.length_cons] at ih ⊢; omega
theorem tailS_length (a : List SlotD) : (tailS a).length = sumR a := by
  induction a with
  | nil => rfl
  | cons x a ih => simp only [tailS, List.flatMap_cons, List.length_append, sumR] at ih ⊢; rw [ih]; simp
theorem roomS_length (t : List SlotD) (h : 2 * t.length + sumR t ≤ 494) : (roomS t).length = 496 := by
  simp only [roomS, List.length_append, leB_length, headS_length, tailS_length, nul_length]; omega
theorem sumR_mem {l : List SlotD} {x : SlotD} (h : x ∈ l) : x.2.size ≤ sumR l := by
  induction l with
  | nil => cases h
  | cons y l ih =>
    rcases List.mem_cons.1 h with rfl | h
    · simp [sumR]
    · have := ih h; simp [sumR]; omega
theorem sumR_take_le (l : List SlotD) (k : Nat) : sumR (l.take k) ≤ sumR l := by
  have := sumR_append (l.take k) (l.drop k)
  rw [List.take_append_drop] at this
  omega

/-! Reading a room. -/
def parseTo (room : ByteArray) (n : Nat) : Nat → Option (List SlotD × Nat)
  | 0 => some ([], 2 + 2 * n)
  | k + 1 => match parseTo room n k with
    | none => none
    | some (l, p) =>
      if leN (cut room (2 + 2 * k) 2) = 0 then some (l ++ [(false, ⟨#[]⟩)], p)
      else if 496 - (p : Int) < leN (cut room (2 + 2 * k) 2) - 1 then none
      else some (l ++ [(true, room.extract p (p + ((leN (cut room (2 + 2 * k) 2)).toNat - 1)))], p + ((leN (cut room (2 + 2 * k) 2)).toNat - 1))
def slotN (room : ByteArray) : Nat := (leN (cut room 0 2)).toNat
def readM (room : ByteArray) : Option (List SlotD) :=
  if room.size = 496 ∧ 2 * slotN room ≤ 494 then
    match parseTo room (slotN room) (slotN room) with
    | none => none
    | some (l, _) => if (packM l).2 = 0 ∧ (packM l).1 = room then some l else none
  else none

theorem parseTo_length (room : ByteArray) (n : Nat) : ∀ k l p, parseTo room n k = some (l, p) → l.length = k
  | 0, l, p, h => by simp [parseTo] at h; rw [h.1]; rfl
  | k + 1, l, p, h => by
    unfold parseTo at h
    cases hk : parseTo room n k with
    | none => rw [hk] at h; cases h
    | some q =>
      obtain ⟨l', p'⟩ := q
      rw [hk] at h
      have ih := parseTo_length room n k l' p' hk
      simp only at h
      split at h
      · simp at h; rw [← h.1]; simp [ih]
      · split at h
        · cases h
        · simp at h; rw [← h.1]; simp [ih]
theorem parseTo_good (room : ByteArray) (n : Nat) : ∀ k l p, parseTo room n k = some (l, p) → ∀ x ∈ l, badB x = false
  | 0, l, p, h => by simp [parseTo] at h; rw [h.1]; simp
  | k + 1, l, p, h => by
    unfold parseTo at h
    cases hk : parseTo room n k with
    | none => rw [hk] at h; cases h
    | some q =>
      obtain ⟨l', p'⟩ := q
      rw [hk] at h
      have ih := parseTo_good room n k l' p' hk
      simp only at h
      intro x hx
      split at h
      · simp at h; rw [← h.1] at hx
        rcases List.mem_append.1 hx with hx | hx
        · exact ih x hx
        · simp at hx; subst hx; rfl
      · split at h
        · cases h
        · simp at h; rw [← h.1] at hx
          rcases List.mem_append.1 hx with hx | hx
          · exact ih x hx
          · simp at hx; subst hx; rfl

theorem cut_S (l : List UInt8) (a k : Nat) : cut (S l) a k = (l.drop a).take k := by simp [cut, S]
theorem leN_leB2 (n : Nat) (h : n < 65536) : leN (leB (n : Int) 2) = n := by
  rw [leN_leB 2 n (by omega)]
  have : (256 : Int) ^ 2 = 65536 := rfl
  omega
theorem roomS_num (t : List SlotD) (h : t.length < 65536) : slotN (S (roomS t)) = t.length := by
  unfold slotN
  rw [cut_S]
  have : (List.drop 0 (roomS t)).take 2 = leB t.length 2 := by
    simp only [roomS, List.drop_zero, List.append_assoc]
    exact List.take_left' (leB_length _ _)
  rw [this, leN_leB2 _ h]; simp
theorem drop_flat (l : List SlotD) (k : Nat) (hk : k ≤ l.length) : (headS l).drop (2 * k) = headS (l.drop k) := by
  have e : headS l = headS (l.take k) ++ headS (l.drop k) := by
    unfold headS
    rw [← List.flatMap_append, List.take_append_drop]
  rw [e]
  exact List.drop_left' (by rw [headS_length]; simp; omega)
theorem tail_split (l : List SlotD) (k : Nat) : tailS l = tailS (l.take k) ++ tailS (l.drop k) := by
  unfold tailS
  rw [← List.flatMap_append, List.take_append_drop]
theorem roomS_key {t : List SlotD} {k : Nat} {x : SlotD} (hx : t[k]? = some x) : cut (S (roomS t)) (2 + 2 * k) 2 = leB (keyS x) 2 := by
  obtain ⟨hk, rfl⟩ := List.getElem?_eq_some_iff.1 hx
  rw [cut_S]
  have e : roomS t = leB t.length 2 ++ (headS t ++ (tailS t ++ nul (494 - 2 * t.length - sumR t))) := by simp [roomS]
  rw [e, ← List.drop_drop, List.drop_left' (leB_length _ _), List.drop_append_of_le_length (by rw [headS_length]; omega), drop_flat t k (by omega)]
  rw [List.drop_eq_getElem_cons hk]
  have : headS (t[k] :: t.drop (k + 1)) = leB (keyS t[k]) 2 ++ headS (t.drop (k + 1)) := by unfold headS; rw [List.flatMap_cons]
  rw [this, List.append_assoc]
  exact List.take_left' (leB_length _ _)
theorem roomS_rec {t : List SlotD} {k : Nat} {x : SlotD} (hx : t[k]? = some x) :
    (S (roomS t)).extract (2 + 2 * t.length + sumR (t.take k)) (2 + 2 * t.length + sumR (t.take k) + x.2.size) = x.2 := by
  obtain ⟨hk, rfl⟩ := List.getElem?_eq_some_iff.1 hx
  rw [extract_cut, cut_S, Nat.add_sub_cancel_left]
  have e : roomS t = (leB t.length 2 ++ headS t ++ tailS (t.take k)) ++ (tailS (t.drop k) ++ nul (494 - 2 * t.length - sumR t)) := by
    unfold roomS; rw [tail_split t k]; simp
  rw [e, List.drop_left' (by simp only [List.length_append, leB_length, headS_length, tailS_length]), List.drop_eq_getElem_cons hk]
  have : tailS (t[k] :: t.drop (k + 1)) = t[k].2.data.toList ++ tailS (t.drop (k + 1)) := by unfold tailS; rw [List.flatMap_cons]
  rw [this, List.append_assoc, List.take_left' (by simp), S_data]
theorem unused_nil {x : SlotD} (h : badB x = false) (h1 : x.1 = false) : x = (false, ⟨#[]⟩) := by
  obtain ⟨u, s⟩ := x
  simp only at h1
  subst h1
  simp [badB] at h
  exact Prod.ext rfl (ByteArray.ext h)
/-- What was packed is read. -/
theorem parse_room (t : List SlotD) (hb : t.any badB = false) (hf : 2 * t.length + sumR t ≤ 494) : ∀ k, k ≤ t.length → parseTo (S (roomS t)) t.length k = some (t.take k, 2 + 2 * t.length + sumR (t.take k))
  | 0, _ => by simp [parseTo, sumR]
  | k + 1, hk => by
    have ih := parse_room t hb hf k (by omega)
    have hx : t[k]? = some (t[k]'(by omega)) := List.getElem?_eq_getElem _
    have hm := sumR_mem (List.getElem_mem (show k < t.length by omega))
    have hbk : badB (t[k]'(by omega)) = false := by
      have := List.any_eq_false.1 hb _ (List.getElem_mem (show k < t.length by omega))
      simpa using this
    have hsum : sumR (t.take (k + 1)) = sumR (t.take k) + (t[k]'(by omega)).2.size := by
      rw [List.take_succ_eq_append_getElem (by omega), sumR_snoc]
    have hle := sumR_take_le t (k + 1)
    unfold parseTo
    rw [ih]
    simp only
    rw [roomS_key hx, leN_leB2 _ (by unfold keyS; split <;> omega), List.take_succ_eq_append_getElem (show k < t.length by omega)]
    cases hu : (t[k]'(by omega)).1
    · have he := unused_nil hbk hu
      have : (keyS (t[k]'(by omega)) : Int) = 0 := by simp [keyS, hu]
      rw [if_pos this, he, sumR_snoc]; rfl
    · have hkey : keyS (t[k]'(by omega)) = (t[k]'(by omega)).2.size + 1 := by simp [keyS, hu]
      rw [if_neg (by rw [hkey]; omega), if_neg (by rw [hkey]; omega), sumR_snoc]
      have e : ((keyS (t[k]'(by omega)) : Nat) : Int).toNat - 1 = (t[k]'(by omega)).2.size := by rw [hkey]; simp
      rw [e, roomS_rec hx, ← hu, Nat.add_assoc]

theorem packM_ok {l : List SlotD} (h : (packM l).2 = 0) : l.any badB = false ∧ 2 * (trimS l).length + sumR (trimS l) ≤ 494 ∧ (packM l).1 = S (roomS (trimS l)) := by
  unfold packM at h ⊢
  cases hb : l.any badB
  · rw [hb] at h
    by_cases hf : 494 < 2 * (trimS l).length + sumR (trimS l)
    · simp [hf] at h
    · simp [hf]; omega
  · rw [hb] at h; simp at h
theorem packM_trim (l : List SlotD) : packM (trimS l) = packM l := by
  unfold packM
  rw [any_bad_trim, trimS_trimS]
/-- What was packed is read. -/
theorem read_pack {l : List SlotD} (h : (packM l).2 = 0) : readM (packM l).1 = some (trimS l) := by
  obtain ⟨hb, hf, he⟩ := packM_ok h
  unfold readM
  have hn : slotN (packM l).1 = (trimS l).length := by rw [he]; exact roomS_num _ (by omega)
  rw [hn, if_pos ⟨by rw [he, S_size, roomS_length _ hf], by omega⟩, he, parse_room (trimS l) (by rw [any_bad_trim]; exact hb) hf _ (Nat.le_refl _)]
  simp only [List.take_length]
  rw [packM_trim, if_pos ⟨h, he⟩]
/-- What is read is trimmed, and packs to the room. -/
theorem readM_some {room : ByteArray} {l : List SlotD} (h : readM room = some l) : packM l = (room, 0) ∧ trimS l = l ∧ l.any badB = false ∧ 2 * l.length + sumR l ≤ 494 ∧ room.size = 496 := by
  unfold readM at h
  split at h
  · rename_i hs
    split at h
    · cases h
    · rename_i l' p hp
      split at h
      · rename_i hk
        cases h
        obtain ⟨hb, hf, he⟩ := packM_ok hk.1
        have hlen := parseTo_length _ _ _ _ _ hp
        have hn : slotN room = (trimS l).length := by rw [← hk.2, he]; exact roomS_num _ (by omega)
        have ht : trimS l = l := by
          have h1 := trimS_length l
          unfold trimS
          rw [← h1, ← hn, ← hlen, List.take_length]
        rw [ht] at hf
        exact ⟨Prod.ext hk.2 hk.1, ht, hb, hf, hs.1⟩
      · cases h
  · cases h
theorem roomS_nil : roomS [] = nul 496 := by
  have : leB ((0 : Nat) : Int) 2 = nul 2 := by decide
  simp only [roomS, List.length_nil, headS, tailS, List.flatMap_nil, sumR, this]
  show nul 2 ++ [] ++ [] ++ nul 494 = nul 496
  rw [List.append_nil, List.append_nil]
  exact List.replicate_append_replicate
theorem packM_nil : packM [] = (S (nul 496), 0) := by
  have h1 : trimS [] = [] := rfl
  unfold packM
  rw [h1, roomS_nil]; rfl

end Go.Proofs.Yteijagojagfecaa
