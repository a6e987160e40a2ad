/- What was written and flushed stays: plain facts. -/
import Derived.Test.YteijagojagfecaaActs
namespace Go.Proofs.Yteijagojagfecaa
open Go.RowKit Go.Maps Go.Joins
set_option linter.unusedVariables false

/-- Sector i is sure to be f. -/
structure SureI (m : DM) (i : Nat) (f : ByteArray) : Prop where
  sure : m.sure[i]? = some f
  wait : ∀ x ∈ m.wait, x.1 ≠ (i : Int)

theorem lastW_none : ∀ (l : List (Int × ByteArray)) (k : Int), (∀ x ∈ l, x.1 ≠ k) → lastW l k = none := by
  intro l k h
  unfold lastW
  have : ∀ (l : List (Int × ByteArray)) (acc : Option ByteArray), (∀ x ∈ l, x.1 ≠ k) → l.foldl (fun acc x => if x.1 = k then some x.2 else acc) acc = acc := by
    intro l
    induction l with
    | nil => intro acc _; rfl
    | cons x l ih =>
      intro acc h
      rw [List.foldl_cons, if_neg (h x (by simp))]
      exact ih acc (fun y hy => h y (by simp [hy]))
  exact this l none h
theorem SureI.read {m : DM} {i : Nat} {f : ByteArray} (h : SureI m i f) : rdM m i = if m.down then (⟨#[]⟩, 11) else (f, 0) := by
  have hlt := (List.getElem?_eq_some_iff.1 h.sure).1
  unfold rdM
  split
  · rfl
  · have hn : ¬ ((i : Int) < 0 ∨ (m.sure.length : Int) ≤ i) := by omega
    rw [if_neg hn, lastW_none _ _ h.wait]
    simp [h.sure]
theorem SureI.burn {m : DM} {i : Nat} {f : ByteArray} (h : SureI m i f) : SureI (burnM m).2 i f := by
  obtain ⟨e1, e2⟩ := burnM_wait m
  exact ⟨by rw [e2]; exact h.sure, by rw [e1]; exact h.wait⟩
theorem SureI.write {m : DM} {i : Nat} {f : ByteArray} (h : SureI m i f) (j : Int) (s : ByteArray) (hj : j ≠ i) : SureI (wrM m j s).2 i f := by
  unfold wrM
  split
  · exact h
  · split
    · exact h
    · split
      · refine ⟨h.burn.sure, fun x hx => ?_⟩
        rcases List.mem_append.1 hx with hx | hx
        · exact h.burn.wait x hx
        · simp at hx; subst hx; exact hj
      · exact h.burn
theorem flTo_other : ∀ (l : List (Int × ByteArray)) (su : List ByteArray) (i : Nat), (∀ x ∈ l, x.1.toNat ≠ i) → (flTo su l)[i]? = su[i]?
  | [], su, i, _ => rfl
  | x :: l, su, i, h => by
    show (flTo (su.set x.1.toNat x.2) l)[i]? = _
    rw [flTo_other l _ i (fun y hy => h y (by simp [hy])), List.getElem?_set_ne (h x (by simp))]
theorem wait_nat {m : DM} {i : Nat} (hok : WaitOk m) (h : ∀ x ∈ m.wait, x.1 ≠ (i : Int)) : ∀ x ∈ m.wait, x.1.toNat ≠ i := by
  intro x hx
  obtain ⟨j, hj, _⟩ := hok x hx
  have := h x hx
  rw [hj] at this ⊢
  simp; omega
theorem SureI.flush {m : DM} {i : Nat} {f : ByteArray} (h : SureI m i f) (hok : WaitOk m) : SureI (flM m).2 i f := by
  unfold flM
  split
  · exact h
  · split
    · exact ⟨by show (flTo m.sure m.wait)[i]? = _; rw [flTo_other _ _ _ (wait_nat hok h.wait)]; exact h.sure, fun x hx => by cases hx⟩
    · exact h.burn
theorem SureI.setFuse {m : DM} {i : Nat} {f : ByteArray} (h : SureI m i f) (n : Int) : SureI (fuM m n) i f := ⟨h.sure, h.wait⟩
theorem crN_other (torn : Int) (n kn : Nat) (kf : Nat → Bool) (l : List (Int × ByteArray)) (su : List ByteArray) (i : Nat) (h : ∀ x ∈ l, x.1.toNat ≠ i) : ∀ k, (crN torn n kn kf l su k)[i]? = su[i]?
  | 0 => rfl
  | k + 1 => by
    have ih := crN_other torn n kn kf l su i h k
    unfold crN
    split
    · rename_i x hx
      rw [List.getElem?_set_ne (h x (List.mem_of_getElem? hx))]; exact ih
    · exact ih
theorem SureI.crash {m : DM} {i : Nat} {f : ByteArray} (h : SureI m i f) (hok : WaitOk m) (kn : Nat) (kf : Nat → Bool) (torn b : Int) : SureI (crM m kn kf torn b) i f :=
  ⟨by show (crN _ _ _ _ _ _ _)[i]? = _; rw [crN_other _ _ _ _ _ _ _ (wait_nat hok h.wait)]; exact h.sure, fun x hx => by cases hx⟩

/-- The first write and flush. -/
theorem first_write (i : Nat) (f : ByteArray) (hi : i < 8) (hf : f.size = 64) : (wrM (newM (newSu 8)) i f).1 = 0 ∧ (flM (wrM (newM (newSu 8)) i f).2).1 = 0 ∧ SureI (flM (wrM (newM (newSu 8)) i f).2).2 i f := by
  have h1 : ¬ ((i : Int) < 0 ∨ ((newM (newSu 8)).sure.length : Int) ≤ i ∨ f.size ≠ 64) := by
    have : (newM (newSu 8)).sure.length = 8 := by simp [newM, newSu]
    omega
  have e1 : wrM (newM (newSu 8)) i f = (0, { newM (newSu 8) with wait := [((i : Int), f)] }) := by
    unfold wrM
    rw [if_neg (by simp [newM]), if_neg h1]
    simp [burnM, newM]
  rw [e1]
  refine ⟨rfl, by simp [flM, burnM, newM], ?_⟩
  have e2 : (flM { newM (newSu 8) with wait := [((i : Int), f)] }).2 = newM ((newSu 8).set i f) := by simp [flM, burnM, newM, flTo]
  rw [e2]
  refine ⟨?_, fun x hx => by cases hx⟩
  show ((newSu 8).set i f)[i]? = _
  rw [List.getElem?_set_self (by simp [newSu]; exact hi)]

end Go.Proofs.Yteijagojagfecaa
