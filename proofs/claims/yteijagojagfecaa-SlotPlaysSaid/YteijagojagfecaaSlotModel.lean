/- Slots behind a call: plain facts. No program in sight. -/
import Derived.Test.YteijagojagfecaaSlotLeft
namespace Go.Proofs.Yteijagojagfecaa
open Go.RowKit
set_option linter.unusedVariables false

/-- A list as Read hands it back. -/
structure Good (l : List SlotD) : Prop where
  trim : trimS l = l
  good : l.any badB = false
  fits : 2 * l.length + sumR l ≤ 494
theorem Good.of_read {room : ByteArray} {l : List SlotD} (h : readM room = some l) : Good l := by
  obtain ⟨_, h2, h3, h4, _⟩ := readM_some h
  exact ⟨h2, h3, h4⟩
theorem trim_self {l : List SlotD} (h : ∀ j, l.length = j + 1 → ∃ x, l[j]? = some x ∧ emptyB x = false) : trimS l = l := by
  have : trimLen l l.length = l.length := trimLen_self h
  unfold trimS; rw [this, List.take_length]
theorem Good.last {l : List SlotD} (h : Good l) {j : Nat} (hj : l.length = j + 1) : ∃ x, l[j]? = some x ∧ emptyB x = false := by
  have h1 := trimS_length l
  rw [h.trim] at h1
  exact trimLen_last l l.length j (Nat.le_refl _) (by rw [← h1]; exact hj)
theorem Good.bad {l : List SlotD} (h : Good l) {j : Nat} {x : SlotD} (hx : l[j]? = some x) : badB x = false := by
  have := List.any_eq_false.1 h.good x (List.mem_of_getElem? hx)
  simpa using this
theorem sumR_set {l : List SlotD} {k : Nat} {x : SlotD} (hx : l[k]? = some x) (y : SlotD) : sumR (l.set k y) + x.2.size = sumR l + y.2.size := by
  induction l generalizing k with
  | nil => simp at hx
  | cons z l ih =>
    cases k with
    | zero => simp at hx; subst hx; simp [sumR]; omega
    | succ k => have := ih (k := k) (by simpa using hx); simp [sumR]; omega

/-! A record is put in. -/
theorem freeI_le (l : List SlotD) : freeI l ≤ l.length := List.findIdx_le_length
theorem freeI_at {l : List SlotD} (h : freeI l < l.length) : ∃ x, l[freeI l]? = some x ∧ x.1 = false := by
  refine ⟨l[freeI l], List.getElem?_eq_getElem _, ?_⟩
  have := List.findIdx_getElem (xs := l) (p := fun (x : SlotD) => !x.1) (w := h)
  have h2 : (!(l[freeI l]'h).1) = true := this
  rw [Bool.not_eq_true'] at h2
  exact h2
theorem moreL_free {l : List SlotD} : moreL l = if freeI l < l.length then 0 else 2 := by
  unfold moreL
  by_cases h : freeI l < l.length
  · obtain ⟨x, hx, hu⟩ := freeI_at h
    have : l.all (·.1) = false := by
      rw [List.all_eq_false]
      exact ⟨x, List.mem_of_getElem? hx, by simp [hu]⟩
    simp [h, this]
  · have : l.all (·.1) = true := by
      rw [List.all_eq_true]
      intro x hx
      have hl : freeI l = l.length := by have := freeI_le l; omega
      have := List.findIdx_eq_length.1 hl x hx
      simpa using this
    simp [h, this]
theorem addL_length (l : List SlotD) (s : ByteArray) : ((addL l s).length : Int) = l.length + moreL l / 2 := by
  rw [moreL_free]
  unfold addL
  split
  · simp
  · simp
theorem addL_at (l : List SlotD) (s : ByteArray) : (addL l s)[freeI l]? = some (true, s) := by
  unfold addL
  split
  · rename_i h; simp [h]
  · have : freeI l = l.length := by have := freeI_le l; omega
    rw [this]; simp
theorem addL_other {l : List SlotD} {s : ByteArray} {k : Nat} {x : SlotD} (hx : l[k]? = some x) (hu : x.1 = true) : (addL l s)[k]? = some x := by
  have hk := (List.getElem?_eq_some_iff.1 hx).1
  unfold addL
  split
  · rename_i h
    have : freeI l ≠ k := by
      intro e
      obtain ⟨y, hy, hyu⟩ := freeI_at h
      rw [e, hx] at hy; cases hy; rw [hu] at hyu; cases hyu
    rw [List.getElem?_set_ne this, hx]
  · rw [List.getElem?_append_left hk, hx]
theorem addL_sum {l : List SlotD} (h : Good l) (s : ByteArray) : sumR (addL l s) = sumR l + s.size := by
  unfold addL
  split
  · rename_i hf
    obtain ⟨x, hx, hu⟩ := freeI_at hf
    have hz : x.2.size = 0 := by rw [unused_nil (h.bad hx) hu]; rfl
    have := sumR_set hx (true, s)
    simp only at this
    omega
  · rw [sumR_snoc]
theorem addL_bad {l : List SlotD} (h : Good l) (s : ByteArray) : (addL l s).any badB = false := by
  rw [List.any_eq_false]
  intro x hx
  have hl : ∀ y ∈ l, badB y = false := fun y hy => by have := List.any_eq_false.1 h.good y hy; simpa using this
  unfold addL at hx
  split at hx
  · rcases List.mem_or_eq_of_mem_set hx with hx | rfl
    · simp [hl x hx]
    · simp [badB]
  · rcases List.mem_append.1 hx with hx | hx
    · simp [hl x hx]
    · simp at hx; subst hx; simp [badB]
theorem addL_trim {l : List SlotD} (h : Good l) (s : ByteArray) : trimS (addL l s) = addL l s := by
  refine trim_self fun j hj => ?_
  by_cases e : freeI l = j
  · exact ⟨(true, s), by rw [← e]; exact addL_at l s, rfl⟩
  · unfold addL at hj ⊢
    split
    · rename_i hf
      rw [if_pos hf] at hj
      obtain ⟨x, hx, he⟩ := h.last (j := j) (by simpa using hj)
      exact ⟨x, by rw [List.getElem?_set_ne e]; exact hx, he⟩
    · rename_i hf
      rw [if_neg hf] at hj
      have : freeI l = l.length := by have := freeI_le l; omega
      simp at hj; omega
/-- The room for a record more. -/
def roomI (l : List SlotD) : Int := 494 - 2 * (l.length : Int) - sumR l - moreL l
theorem pack_addL {l : List SlotD} (h : Good l) (s : ByteArray) : packM (addL l s) = if roomI l < s.size then (⟨#[]⟩, 8) else (S (roomS (addL l s)), 0) := by
  have h1 := addL_bad h s
  have h2 := addL_trim h s
  have h3 := addL_sum h s
  have h4 := addL_length l s
  have h5 : moreL l = 0 ∨ moreL l = 2 := by unfold moreL; split <;> simp
  unfold packM roomI
  rw [h1, h2, h3]
  by_cases hc : (494 : Int) - 2 * (l.length : Int) - sumR l - moreL l < s.size
  · rw [if_pos hc, if_neg (by decide), if_pos (by rcases h5 with h5 | h5 <;> rw [h5] at hc h4 <;> omega)]
  · rw [if_neg hc, if_neg (by decide), if_neg (by rcases h5 with h5 | h5 <;> rw [h5] at hc h4 <;> omega)]
theorem leftM_good {room : ByteArray} {l : List SlotD} (h : readM room = some l) : leftM room = max (roomI l) (-1) := by
  unfold leftM roomI moreL; rw [h]
theorem readM_of {l : List SlotD} (h : (packM l).2 = 0) : readM (packM l).1 = some (trimS l) := read_pack h

/-! A record is changed, or taken out. -/
theorem set_bad {l : List SlotD} (h : Good l) (k : Nat) (y : SlotD) (hy : badB y = false) : (l.set k y).any badB = false := by
  rw [List.any_eq_false]
  intro x hx
  rcases List.mem_or_eq_of_mem_set hx with hx | rfl
  · have := List.any_eq_false.1 h.good x hx; simpa using this
  · simp [hy]
theorem set_trim {l : List SlotD} (h : Good l) (k : Nat) (s : ByteArray) : trimS (l.set k (true, s)) = l.set k (true, s) := by
  refine trim_self fun j hj => ?_
  obtain ⟨x, hx, he⟩ := h.last (j := j) (by simpa using hj)
  by_cases e : k = j
  · subst e
    have := (List.getElem?_eq_some_iff.1 hx).1
    exact ⟨(true, s), by simp [this], rfl⟩
  · exact ⟨x, by rw [List.getElem?_set_ne e]; exact hx, he⟩
theorem packM_code {l : List SlotD} (h : l.any badB = false) : (packM l).2 = 0 ∨ packM l = (⟨#[]⟩, 8) := by
  unfold packM
  rw [h]
  by_cases hc : 494 < 2 * (trimS l).length + sumR (trimS l)
  · right; rw [if_neg (by decide), if_pos hc]
  · left; rw [if_neg (by decide), if_neg hc]
/-- A used slot outlives trimming. -/
theorem trim_keeps {l : List SlotD} {k : Nat} {x : SlotD} (hx : l[k]? = some x) (hu : x.1 = true) : (trimS l)[k]? = some x := by
  have hlt : k < trimLen l l.length := by
    rcases Nat.lt_or_ge k (trimLen l l.length) with h | h
    · exact h
    · have := trimLen_drop l l.length k x h (List.getElem?_eq_some_iff.1 hx).1 hx
      rw [emptyB_used hu] at this; cases this
  unfold trimS
  rw [List.getElem?_take_of_lt hlt, hx]

end Go.Proofs.Yteijagojagfecaa
