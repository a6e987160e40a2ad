/- The contract of the reference's Stands. -/
import Derived.Test.YtfnfapgmicmegaaRef9
import Derived.Test.YtfnfapgmicmegaaRedo4
namespace Go.Proofs.Ytfnfapgmicmegaa
open Go.RowKit Go.Joins
set_option linter.unusedVariables false

/-- These bytes are a stretch of the disk. -/
structure StIn (all : ByteArray) (m : DM) (frm size : Nat) : Prop where
  bytes : all.size = 64 * size
  small : size ≤ 65536
  sec : ∀ k, k < size → all.extract (64 * k) (64 * k + 64) = secM m (frm + k)
  secz : ∀ k, k < size → (secM m (frm + k)).size = 64
theorem StIn.list {all : ByteArray} {m : DM} {frm size : Nat} (h : StIn all m frm size) (k i : Nat) (hk : k < size) (hi : i < 64) : all.data.toList[64 * k + i]? = (secM m (frm + k)).data.toList[i]? := by
  rw [← h.sec k hk, extract_cut, data_S]
  unfold cut
  rw [List.getElem?_take_of_lt (by omega), List.getElem?_drop]
theorem pgSecs_size {all : ByteArray} {m : DM} {frm size : Nat} (h : StIn all m frm size) (a i : Nat) (hi : a + 1 + 9 * (i + 1) ≤ size) : ∀ s ∈ pgSecs m (frm + a) i, s.size = 64 := by
  intro s hs
  simp only [pgSecs, List.mem_map, List.mem_range] at hs
  obtain ⟨k, hk, rfl⟩ := hs
  have := h.secz (a + 1 + i * 9 + k) (by omega)
  rw [← Nat.add_assoc, ← Nat.add_assoc, ← Nat.add_assoc] at this
  exact this
/-- The bytes of a page. -/
theorem StIn.page {all : ByteArray} {m : DM} {frm size : Nat} (h : StIn all m frm size) (a i : Nat) (hi : a + 1 + 9 * (i + 1) ≤ size) :
    all.extract (64 * a + 64 + 576 * i) (64 * a + 64 + 576 * (i + 1)) = secsS (pgSecs m (frm + a) i) := by
  have hz := pgSecs_size h a i hi
  have hsz := secsS_size (pgSecs_length m (frm + a) i) hz
  rw [← S_data (secsS _), extract_cut, S_inj]
  apply List.ext_getElem?
  intro x
  have hal := h.bytes
  by_cases hx : x < 576
  · unfold cut
    rw [List.getElem?_take_of_lt (by omega), List.getElem?_drop]
    have h1 := secsS_get hz (x / 64) (x % 64) (Nat.mod_lt _ (by decide))
    rw [Nat.div_add_mod] at h1
    rw [h1]
    have h2 : (pgSecs m (frm + a) i)[x / 64]? = some (secM m (frm + a + 1 + i * 9 + x / 64)) := by
      unfold pgSecs
      rw [List.getElem?_map, List.getElem?_range (by omega)]; rfl
    rw [h2]
    have h3 := h.list (a + 1 + i * 9 + x / 64) (x % 64) (by omega) (Nat.mod_lt _ (by decide))
    rw [show 64 * (a + 1 + i * 9 + x / 64) + x % 64 = 64 * a + 64 + 576 * i + x by omega] at h3
    rw [h3]
    simp only [Option.bind_some]
    rw [show frm + (a + 1 + i * 9 + x / 64) = frm + a + 1 + i * 9 + x / 64 by omega]
  · rw [List.getElem?_eq_none (by unfold cut; rw [List.length_take]; omega), List.getElem?_eq_none (by rw [data_length, hsz]; omega)]

/-- The pages that the marks up to k tell. -/
def hitN (s : ByteArray) (q : Int) (k : Nat) : Nat :=
  if mOk s = true ∧ mN s = q ∧ mT s = textM ((leN (cut (mT s) 0 2)).toNat : Nat) ∧ 1 ≤ (leN (cut (mT s) 0 2)).toNat ∧ (leN (cut (mT s) 0 2)).toNat < k then (leN (cut (mT s) 0 2)).toNat else 0
theorem hitN_one (s : ByteArray) (q : Int) : hitN s q 1 = 0 := by unfold hitN; rw [if_neg (by omega)]
theorem hitN_yes {s : ByteArray} {q : Int} {k : Nat} (hs : s.size = 64) (q0 : 0 ≤ q) (q1 : q ≤ 18446744073709551615) (hk : 1 ≤ k) (hk2 : k ≤ 64) (h : s = markS q k) : hitN s q (k + 1) = k := by
  obtain ⟨h1, h2, h3⟩ := (mark_iff s hs q k q0 q1).1 h
  have e : (leN (cut (mT s) 0 2)).toNat = k := by rw [h3, text_num k (by omega) (by omega)]; omega
  unfold hitN
  rw [e, if_pos ⟨h1, h2, h3, hk, by omega⟩]
theorem hitN_no {s : ByteArray} {q : Int} {k : Nat} (hs : s.size = 64) (q0 : 0 ≤ q) (q1 : q ≤ 18446744073709551615) (h : s ≠ markS q k) : hitN s q (k + 1) = hitN s q k := by
  unfold hitN
  by_cases hc : mOk s = true ∧ mN s = q ∧ mT s = textM ((leN (cut (mT s) 0 2)).toNat : Nat) ∧ 1 ≤ (leN (cut (mT s) 0 2)).toNat ∧ (leN (cut (mT s) 0 2)).toNat < k
  · rw [if_pos hc, if_pos ⟨hc.1, hc.2.1, hc.2.2.1, hc.2.2.2.1, by omega⟩]
  · rw [if_neg hc, if_neg]
    rintro ⟨h1, h2, h3, h4, h5⟩
    by_cases e : (leN (cut (mT s) 0 2)).toNat = k
    · rw [e] at h3
      exact h ((mark_iff s hs q k q0 q1).2 ⟨h1, h2, h3⟩)
    · exact hc ⟨h1, h2, h3, h4, by omega⟩
theorem hitN_le (s : ByteArray) (q : Int) (k : Nat) : hitN s q k ≤ k := by unfold hitN; split <;> omega
/-- The document's test is the program's. -/
theorem head_hit (m : DM) (p left : Nat) (q : Int) : txHead m p q left = decide (hitN (secM m p) q 65 ≠ 0 ∧ 9 * hitN (secM m p) q 65 + 1 ≤ left) := by
  have h0 := (leN_bd (cut (mT (secM m p)) 0 2)).1
  have e0 : txN m p = ((leN (cut (mT (secM m p)) 0 2)).toNat : Nat) := by unfold txN; omega
  cases hh : txHead m p q left
  · symm
    rw [decide_eq_false_iff_not]
    rintro ⟨h1, h2⟩
    unfold hitN at h1 h2
    split at h1
    · rename_i hc
      rw [if_pos hc] at h2
      obtain ⟨c1, c2, c3, c4, c5⟩ := hc
      have : txHead m p q left = true := by
        unfold txHead
        rw [c1, c2, e0, ← c3]
        simp; omega
      rw [this] at hh; cases hh
    · exact h1 rfl
  · symm
    obtain ⟨h1, h2, h3, h4, h5, h6⟩ := mark_facts hh
    rw [e0] at h3 h4 h5 h6
    have : hitN (secM m p) q 65 = (leN (cut (mT (secM m p)) 0 2)).toNat := by unfold hitN; rw [if_pos ⟨h1, h2, h5, by omega, by omega⟩]
    rw [this, decide_eq_true_eq]
    exact ⟨by omega, by omega⟩
theorem hit_num {m : DM} {p : Nat} {q : Int} (h : hitN (secM m p) q 65 ≠ 0) : txN m p = (hitN (secM m p) q 65 : Nat) := by
  have h0 := (leN_bd (cut (mT (secM m p)) 0 2)).1
  unfold hitN at h ⊢
  split at h
  · rename_i hc; rw [if_pos hc]; unfold txN; omega
  · exact absurd rfl h

end Go.Proofs.Ytfnfapgmicmegaa
