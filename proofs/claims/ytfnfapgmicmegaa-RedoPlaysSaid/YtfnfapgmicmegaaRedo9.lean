/- A log on a disk that has no fuse: plain facts. -/
import Derived.Test.YtfnfapgmicmegaaRedo8
namespace Go.Proofs.Ytfnfapgmicmegaa
open Go.RowKit Go.Joins
set_option linter.unusedVariables false

/-- A disk that stays up. -/
structure UpM (m : DM) (N : Nat) : Prop where
  down : m.down = false
  fuse : m.fuse = -1
  len : m.sure.length = N
theorem UpM.burn {m : DM} {N : Nat} (h : UpM m N) : burnM m = (true, m) := by
  unfold burnM; rw [h.fuse, if_neg (by decide), if_neg (by decide)]
theorem UpM.write {m : DM} {N : Nat} (h : UpM m N) (i : Nat) (s : ByteArray) (hi : i < N) (hs : s.size = 64) : (wrM m i s).1 = 0 ∧ UpM (wrM m i s).2 N := by
  unfold wrM
  rw [h.down, if_neg (by decide), if_neg (by rw [h.len]; omega), h.burn, if_pos rfl]
  exact ⟨rfl, h.down, h.fuse, h.len⟩
theorem UpM.flush {m : DM} {N : Nat} (h : UpM m N) : (flM m).1 = 0 ∧ UpM (flM m).2 N := by
  unfold flM
  rw [h.down, if_neg (by decide), h.burn, if_pos rfl]
  exact ⟨rfl, h.down, h.fuse, by show (flTo m.sure m.wait).length = N; rw [flTo_length]; exact h.len⟩
theorem UpM.stepW {x : Int × DM} {N : Nat} (h0 : x.1 = 0) (h : UpM x.2 N) (i : Nat) (s : ByteArray) (hi : i < N) (hs : s.size = 64) : (stepW x i s).1 = 0 ∧ UpM (stepW x i s).2 N := by
  unfold Proofs.Ytfnfapgmicmegaa.stepW; rw [if_pos h0]; exact h.write i s hi hs
theorem UpM.stepF {x : Int × DM} {N : Nat} (h0 : x.1 = 0) (h : UpM x.2 N) : (stepF x).1 = 0 ∧ UpM (stepF x).2 N := by
  unfold Proofs.Ytfnfapgmicmegaa.stepF; rw [if_pos h0]; exact h.flush
theorem UpM.wrN {m : DM} {N : Nat} (h : UpM m N) (base : Nat) (pages : List ByteArray) (hp : ∀ p ∈ pages, p.size = 512) : ∀ t, t ≤ 9 * pages.length → base + t ≤ N → (wrN base pages m t).1 = 0 ∧ UpM (wrN base pages m t).2 N
  | 0, _, _ => ⟨rfl, h⟩
  | t + 1, ht, hN => by
    have ih := UpM.wrN h base pages hp t (by omega) (by omega)
    unfold Proofs.Ytfnfapgmicmegaa.wrN
    refine UpM.stepW ih.1 ih.2 (base + t) _ (by omega) (secP_size _ ?_ _ (Nat.mod_lt _ (by decide)))
    have hlt : t / 9 < pages.length := by omega
    have : pages.getD (t / 9) ⟨#[]⟩ = pages[t / 9] := by simp [List.getD, hlt]
    rw [this, hp _ (List.getElem_mem hlt)]; omega
theorem up_apX {m : DM} {N : Nat} {l : LM} (h : UpM m N) (pages : List ByteArray) (hp : ∀ p ∈ pages, p.size = 512) (hl : l.frm + l.at_ + 1 + 9 * pages.length ≤ N) : (apX l m pages).1 = 0 ∧ UpM (apX l m pages).2 N := by
  unfold Proofs.Ytfnfapgmicmegaa.apX
  have h1 := h.wrN (l.frm + l.at_ + 1) pages hp _ (Nat.le_refl _) (by omega)
  have h2 := h1.2.stepF h1.1
  have h3 := h2.2.stepW h2.1 (l.frm + l.at_) (mkStr l.next (textM pages.length)) (by omega) (mkStr_size _ _ (by rw [textM_size]; omega))
  exact h3.2.stepF h3.1
theorem up_apM {m : DM} {N : Nat} {l : LM} (h : UpM m N) (pages : List ByteArray) (hp : ∀ p ∈ pages, p.size = 512) (hl : l.frm + l.at_ + 1 + 9 * pages.length ≤ N) :
    apM l m pages = (0, { l with at_ := l.at_ + 1 + 9 * pages.length, next := (l.next + 1) % 18446744073709551616 }, (apX l m pages).2) := by
  unfold Proofs.Ytfnfapgmicmegaa.apM; rw [if_neg (by rw [(up_apX h pages hp hl).1]; simp)]
theorem ok_apX {l : LM} {m : DM} {k : Nat} (h : DOk m k) (pages : List ByteArray) : DOk (apX l m pages).2 (k + 9 * pages.length + 1) :=
  (((h.wrN _ pages _).stepF).stepW _ _).stepF

/-- A fresh disk. -/
theorem UpM.new (n : Nat) : UpM (newM (newSu n)) n := ⟨rfl, rfl, by simp [newM, newSu]⟩
theorem secM_new (n i : Nat) (hi : i < n) : secM (newM (newSu n)) i = S (nul 64) := by
  unfold secM newM newSu
  simp [lastW, List.getD, hi]
theorem nul_cut : cut (mT (S (nul 64))) 0 2 = [0, 0] := by decide +kernel
theorem nul_N : mN (S (nul 64)) = 0 := by decide +kernel
/-- Nothing stands on a fresh disk. -/
theorem stM_new (n size : Nat) (q : Int) (hn : 0 < n) : stM (newM (newSu n)) 0 size q = ([], 0) := by
  unfold stM
  refine stF_end ?_
  rintro ⟨-, h⟩
  obtain ⟨t, ht, h1, -, -⟩ := txOk_facts h
  unfold txN at ht
  rw [secM_new n (0 + 0) (by omega), nul_cut] at ht
  simp [leN] at ht
  omega

end Go.Proofs.Ytfnfapgmicmegaa
