/- What becomes of a call on a disk whose power may go: plain facts. -/
import Derived.Test.YtfnfapgmicmegaaRedoOpensWalk
namespace Go.Proofs.Ytfnfapgmicmegaa
open Go.RowKit Go.Joins
set_option linter.unusedVariables false

/-- All went well and the disk is up; or the power is gone, and it is down. -/
def Fate (m0 : DM) (N : Nat) (x : Int × DM) : Prop := x.2.sure.length = N ∧ ((x.1 = 0 ∧ m0.down = false ∧ x.2.down = false) ∨ (x.1 = 11 ∧ x.2.down = true))
theorem burnM_down (m : DM) (h : m.down = false) : ((burnM m).1 = true ∧ (burnM m).2.down = false) ∨ ((burnM m).1 = false ∧ (burnM m).2.down = true) := by
  unfold burnM
  split
  · exact .inr ⟨rfl, rfl⟩
  · split
    · exact .inl ⟨rfl, h⟩
    · exact .inl ⟨rfl, h⟩
theorem wrM_fate {m : DM} {N : Nat} (hN : m.sure.length = N) (i : Nat) (s : ByteArray) (hi : i < N) (hs : s.size = 64) : Fate m N (wrM m i s) := by
  unfold wrM
  cases hd : m.down
  · rw [if_neg (by decide), if_neg (by rw [hN]; omega)]
    rcases burnM_down m hd with ⟨h1, h2⟩ | ⟨h1, h2⟩
    · rw [h1, if_pos rfl]
      exact ⟨by show (burnM m).2.sure.length = N; rw [(burnM_wait m).2, hN], .inl ⟨rfl, hd, h2⟩⟩
    · rw [h1, if_neg (by decide)]
      exact ⟨by rw [(burnM_wait m).2, hN], .inr ⟨rfl, h2⟩⟩
  · rw [if_pos rfl]
    exact ⟨hN, .inr ⟨rfl, hd⟩⟩
theorem flM_fate {m : DM} {N : Nat} (hN : m.sure.length = N) : Fate m N (flM m) := by
  unfold flM
  cases hd : m.down
  · rw [if_neg (by decide)]
    rcases burnM_down m hd with ⟨h1, h2⟩ | ⟨h1, h2⟩
    · rw [h1, if_pos rfl]
      exact ⟨by show (flTo m.sure m.wait).length = N; rw [flTo_length, hN], .inl ⟨rfl, hd, h2⟩⟩
    · rw [h1, if_neg (by decide)]
      exact ⟨by rw [(burnM_wait m).2, hN], .inr ⟨rfl, h2⟩⟩
  · rw [if_pos rfl]
    exact ⟨hN, .inr ⟨rfl, hd⟩⟩
theorem Fate.stepW {m0 : DM} {N : Nat} {x : Int × DM} (h : Fate m0 N x) (i : Nat) (s : ByteArray) (hi : i < N) (hs : s.size = 64) : Fate m0 N (stepW x i s) := by
  obtain ⟨hN, ⟨h1, h2, h3⟩ | ⟨h1, h2⟩⟩ := h
  · unfold Proofs.Ytfnfapgmicmegaa.stepW
    rw [if_pos h1]
    obtain ⟨k1, ⟨k2, k3, k4⟩ | k2⟩ := wrM_fate hN i s hi hs
    · exact ⟨k1, .inl ⟨k2, h2, k4⟩⟩
    · exact ⟨k1, .inr k2⟩
  · unfold Proofs.Ytfnfapgmicmegaa.stepW
    rw [if_neg (by rw [h1]; decide)]
    exact ⟨hN, .inr ⟨h1, h2⟩⟩
theorem Fate.stepF {m0 : DM} {N : Nat} {x : Int × DM} (h : Fate m0 N x) : Fate m0 N (stepF x) := by
  obtain ⟨hN, ⟨h1, h2, h3⟩ | ⟨h1, h2⟩⟩ := h
  · unfold Proofs.Ytfnfapgmicmegaa.stepF
    rw [if_pos h1]
    obtain ⟨k1, ⟨k2, k3, k4⟩ | k2⟩ := flM_fate hN
    · exact ⟨k1, .inl ⟨k2, h2, k4⟩⟩
    · exact ⟨k1, .inr k2⟩
  · unfold Proofs.Ytfnfapgmicmegaa.stepF
    rw [if_neg (by rw [h1]; decide)]
    exact ⟨hN, .inr ⟨h1, h2⟩⟩
/-- Behind at least one write. -/
theorem wrN_fate {m : DM} {N : Nat} (hN : m.sure.length = N) (base : Nat) (pages : List ByteArray) (hp : ∀ p ∈ pages, p.size = 512) : ∀ t, t + 1 ≤ 9 * pages.length → base + (t + 1) ≤ N → Fate m N (wrN base pages m (t + 1))
  | t, ht, hb => by
    have hsec : ∀ t, t < 9 * pages.length → (secP (pages.getD (t / 9) ⟨#[]⟩) (t % 9)).size = 64 := fun t h => by
      refine secP_size _ ?_ _ (Nat.mod_lt _ (by decide))
      have hlt : t / 9 < pages.length := by omega
      have : pages.getD (t / 9) ⟨#[]⟩ = pages[t / 9] := by simp [List.getD, hlt]
      rw [this, hp _ (List.getElem_mem hlt)]; omega
    cases t with
    | zero =>
      show Fate m N (stepW (0, m) ((base + 0 : Nat) : Int) _)
      unfold Proofs.Ytfnfapgmicmegaa.stepW
      rw [if_pos rfl]
      exact wrM_fate hN (base + 0) _ (by omega) (hsec 0 (by omega))
    | succ t =>
      have ih := wrN_fate hN base pages hp t (by omega) (by omega)
      exact Fate.stepW ih (base + (t + 1)) _ (by omega) (hsec (t + 1) (by omega))
theorem apX_fate {m : DM} {N : Nat} {l : LM} (hN : m.sure.length = N) (pages : List ByteArray) (hne : 0 < pages.length) (hp : ∀ p ∈ pages, p.size = 512) (hl : l.frm + l.at_ + 1 + 9 * pages.length ≤ N) : Fate m N (apX l m pages) := by
  unfold apX
  obtain ⟨t, ht⟩ : ∃ t, 9 * pages.length = t + 1 := ⟨9 * pages.length - 1, by omega⟩
  rw [ht]
  exact (((wrN_fate hN (l.frm + l.at_ + 1) pages hp t (by omega) (by omega)).stepF).stepW (l.frm + l.at_) _ (by omega) (mkStr_size _ _ (by rw [textM_size]; omega))).stepF

/-- The sectors of a disk on which nothing waits. -/
theorem secM_sure {m : DM} (h : m.wait = []) (i : Nat) : secM m i = m.sure.getD i ⟨#[]⟩ := by unfold secM; rw [h]; rfl
theorem imgM_length (su : List ByteArray) (h : ∀ t ∈ su, t.size = 64) : (imgM su).size = 64 * su.length := by
  unfold imgM
  rw [S_size, flat_length 64 _ (by intro y hy; simp at hy; obtain ⟨z, hz, rfl⟩ := hy; rw [data_length, h z hz]), List.length_map]
/-- A stretch of what is sure. -/
theorem stIn_sure {m : DM} (hw : m.wait = []) (hz : ∀ t ∈ m.sure, t.size = 64) (frm size : Nat) (hn : m.sure.length ≤ 65536) (h : frm + size ≤ m.sure.length) : StIn ((imgM m.sure).extract (64 * frm) (64 * (frm + size))) m frm size := by
  have hi := imgM_length m.sure hz
  have hsz : ∀ k, k < m.sure.length → (m.sure.getD k ⟨#[]⟩).size = 64 := fun k hk => by
    have : m.sure.getD k ⟨#[]⟩ = m.sure[k] := by simp [List.getD, hk]
    rw [this]; exact hz _ (List.getElem_mem hk)
  refine ⟨by rw [ByteArray.size_extract]; omega, by omega, fun k hk => ?_, fun k hk => by rw [secM_sure hw]; exact hsz _ (by omega)⟩
  rw [secM_sure hw, extract_cut, extract_cut, ← S_data (m.sure.getD _ _), S_inj]
  unfold cut
  rw [data_S]
  have hL : ∀ y ∈ m.sure.map (·.data.toList), y.length = 64 := by
    intro y hy; simp at hy; obtain ⟨z, hz', rfl⟩ := hy; rw [data_length, hz z hz']
  apply List.ext_getElem?
  intro x
  by_cases hx : x < 64
  · rw [List.getElem?_take_of_lt (by omega), List.getElem?_drop, List.getElem?_take_of_lt (by omega), List.getElem?_drop]
    have := flat_get 64 _ hL (frm + k) x hx
    rw [show 64 * (frm + k) + x = 64 * frm + (64 * k + x) by omega] at this
    unfold imgM
    rw [data_S, this, List.getElem?_map]
    have hlt : frm + k < m.sure.length := by omega
    simp [List.getD, hlt]
  · rw [List.getElem?_eq_none (by rw [List.length_take]; omega), List.getElem?_eq_none (by rw [data_length, hsz _ (by omega)]; omega)]

end Go.Proofs.Ytfnfapgmicmegaa
