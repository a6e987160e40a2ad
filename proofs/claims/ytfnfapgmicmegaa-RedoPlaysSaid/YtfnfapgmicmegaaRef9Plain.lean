/- A page in a log: the program's sectors and the document's bytes. No program in sight. -/
import Derived.Test.YtfnfapgmicmegaaRedo3
namespace Go.Proofs.Ytfnfapgmicmegaa
open Go.RowKit
set_option linter.unusedVariables false

/-! Marks. -/
def markS (q : Int) (n : Int) : ByteArray := mkStr q (S (leB n 2 ++ [1]))
theorem markS_three (n : Int) : (S (leB n 2 ++ [1])).size = 3 := by rw [S_size]; simp [leB_length]
theorem markS_T (q n : Int) : mT (markS q n) = textM n := by
  unfold markS
  rw [mkStr_T _ _ (by rw [markS_three]; omega), markS_three, data_S]
  rfl
theorem sector_parts (s : ByteArray) (h : s.size = 64) : s = S (cut s 0 8 ++ (s.extract 8 56).data.toList ++ cut s 56 8) := by
  conv => lhs; rw [← S_data s]
  rw [S_inj, extract_cut, data_S]
  unfold cut
  rw [List.drop_zero, List.append_assoc]
  have e1 : List.take 8 (List.drop 56 s.data.toList) = List.drop 56 s.data.toList := List.take_of_length_le (by rw [List.length_drop, data_length]; omega)
  have e2 : List.take (56 - 8) (List.drop 8 s.data.toList) ++ List.drop 56 s.data.toList = List.drop 8 s.data.toList := by
    conv => rhs; rw [← List.take_append_drop 48 (List.drop 8 s.data.toList), List.drop_drop]
  rw [e1, e2, List.take_append_drop]
/-- A sector is the document's mark just if it is a mark with this number and text. -/
theorem mark_iff (s : ByteArray) (h : s.size = 64) (q n : Int) (q0 : 0 ≤ q) (q1 : q ≤ 18446744073709551615) : s = markS q n ↔ mOk s = true ∧ mN s = q ∧ mT s = textM n := by
  constructor
  · intro e
    have h1 := markS_T q n
    rw [← e] at h1
    refine ⟨?_, ?_, h1⟩
    · rw [e]; exact mkStr_Ok _ _ (by rw [markS_three]; omega)
    · rw [e]; exact mkStr_N _ _ (by rw [markS_three]; omega) q0 q1
  · rintro ⟨h1, h2, h3⟩
    have h4 := ((mOk_iff s).1 h1).2
    have h5 : cut s 0 8 = leB q 8 := leN_inj (by rw [cut_length s 0 8 (by omega), leB_length]) (by
      rw [leN_leB8 q q0 q1]; unfold mN at h2; rw [h1, if_pos rfl] at h2; exact h2)
    have h6 : s.extract 8 56 = textM n := by unfold mT at h3; rw [h1, if_pos rfl] at h3; exact h3
    rw [sector_parts s h, ← h4, h5, h6]
    unfold markS mkStr mkL textM
    rw [data_S, data_S, markS_three]
    simp only [List.append_assoc]
/-- The number of pages that a text tells. -/
theorem text_num (n : Int) (h0 : 0 ≤ n) (h1 : n < 65536) : leN (cut (textM n) 0 2) = n := by
  have : cut (textM n) 0 2 = leB n 2 := by
    unfold cut textM; rw [data_S, List.drop_zero, List.append_assoc, List.take_left' (leB_length n 2)]
  rw [this, leN_leB 2 n h0]; omega
theorem text_inj {n k : Int} (h0 : 0 ≤ n) (h1 : n < 65536) (k0 : 0 ≤ k) (k1 : k < 65536) (h : textM n = textM k) : n = k := by
  rw [← text_num n h0 h1, h, text_num k k0 k1]

/-! Pages. -/
/-- Byte t of what the document lays. -/
def laidAt (p : ByteArray) (t : Nat) : UInt8 :=
  if t % 64 = 10 then 0 else p.data.toList.getD (63 * (t / 64) + (if 10 < t % 64 then t % 64 - 1 else t % 64)) 0
def laidL (p : ByteArray) (t : Nat) : List UInt8 := (List.range t).map (laidAt p)
def laidS (p : ByteArray) : ByteArray := S (laidL p 576)
theorem laidL_succ (p : ByteArray) (t : Nat) : laidL p (t + 1) = laidL p t ++ [laidAt p t] := by simp [laidL, List.range_succ]
theorem laidL_length (p : ByteArray) (t : Nat) : (laidL p t).length = t := by simp [laidL]
/-- The bytes of a log's page, up to t. -/
def barePl (s : ByteArray) (t : Nat) : List UInt8 := ((List.range t).filter fun k => decide (k % 64 ≠ 10)).map fun k => s.data.toList.getD k 0
theorem barePl_succ (s : ByteArray) (t : Nat) : barePl s (t + 1) = if t % 64 = 10 then barePl s t else barePl s t ++ [s.data.toList.getD t 0] := by
  unfold barePl
  rw [List.range_succ, List.filter_append, List.map_append]
  by_cases h : t % 64 = 10
  · rw [if_pos h]; simp [h]
  · rw [if_neg h]; simp [h]
theorem barePl_length (s : ByteArray) : ∀ t, (barePl s t).length = t - (t + 53) / 64
  | 0 => rfl
  | t + 1 => by
    have ih := barePl_length s t
    rw [barePl_succ]
    split
    · rw [ih]; omega
    · rw [List.length_append, ih]; simp; omega
/-- A byte of the page. -/
theorem barePl_get (s : ByteArray) : ∀ t, t ≤ 576 → ∀ i, i < 9 → ∀ k, k < 63 → 64 * i + (if k < 10 then k else k + 1) < t → (barePl s t)[63 * i + k]? = some (s.data.toList.getD (64 * i + (if k < 10 then k else k + 1)) 0)
  | 0, _, i, _, k, _, h => by omega
  | t + 1, ht, i, hi, k, hk, h => by
    rw [barePl_succ]
    by_cases hlt : 64 * i + (if k < 10 then k else k + 1) < t
    · have ih := barePl_get s t (by omega) i hi k hk hlt
      split
      · exact ih
      · rw [List.getElem?_append_left (by
          have := (List.getElem?_eq_some_iff.1 ih).1
          exact this)]
        exact ih
    · have e : t = 64 * i + (if k < 10 then k else k + 1) := by omega
      have hne : t % 64 ≠ 10 := by rw [e]; split <;> omega
      rw [if_neg hne]
      have hl : (barePl s t).length = 63 * i + k := by
        rw [barePl_length, e]; split <;> omega
      rw [List.getElem?_append_right (by omega), hl, Nat.sub_self, ← e]
      rfl

theorem flat_get {α : Type} (m : Nat) : ∀ (L : List (List α)), (∀ x ∈ L, x.length = m) → ∀ i k, k < m → L.flatten[m * i + k]? = (L[i]?).bind (·[k]?)
  | [], _, i, k, _ => by simp
  | x :: L, h, 0, k, hk => by
    have hx := h x (by simp)
    rw [List.flatten_cons, Nat.mul_zero, Nat.zero_add, List.getElem?_append_left (by omega)]
    simp
  | x :: L, h, i + 1, k, hk => by
    have hx := h x (by simp)
    have ih := flat_get m L (fun y hy => h y (by simp [hy])) i k hk
    rw [List.flatten_cons, List.getElem?_append_right (by rw [hx, Nat.mul_add]; omega), hx, show m * (i + 1) + k - m = m * i + k by rw [Nat.mul_add]; omega, ih]
    simp
theorem flat_length {α : Type} (m : Nat) : ∀ (L : List (List α)), (∀ x ∈ L, x.length = m) → L.flatten.length = m * L.length
  | [], _ => by simp
  | x :: L, h => by
    rw [List.flatten_cons, List.length_append, flat_length m L (fun y hy => h y (by simp [hy])), h x (by simp), List.length_cons, Nat.mul_add]; omega

/-- Nine sectors behind each other. -/
def secsS (l : List ByteArray) : ByteArray := S (l.map (·.data.toList)).flatten
variable {l : List ByteArray}
theorem secsS_size (hl : l.length = 9) (hz : ∀ s ∈ l, s.size = 64) : (secsS l).size = 576 := by
  unfold secsS
  rw [S_size, flat_length 64 _ (by intro x hx; simp at hx; obtain ⟨y, hy, rfl⟩ := hx; rw [data_length, hz y hy])]
  simp [hl]
theorem secsS_get (hz : ∀ s ∈ l, s.size = 64) (i k : Nat) (hk : k < 64) : (secsS l).data.toList[64 * i + k]? = (l[i]?).bind (·.data.toList[k]?) := by
  unfold secsS
  rw [data_S, flat_get 64 _ (by intro x hx; simp at hx; obtain ⟨y, hy, rfl⟩ := hx; rw [data_length, hz y hy]) i k hk, List.getElem?_map]
  cases l[i]? <;> rfl
theorem untell_get (s : ByteArray) (h : s.size = 64) (k : Nat) (hk : k < 63) : (untell s).data.toList[k]? = s.data.toList[if k < 10 then k else k + 1]? := by
  unfold untell
  rw [extract_cut, extract_cut, S_append, data_S]
  have h1 := cut_length s 0 10 (by omega)
  unfold cut at *
  by_cases hlt : k < 10
  · rw [if_pos hlt, List.getElem?_append_left (by rw [Nat.sub_zero]; omega), List.drop_zero, List.getElem?_take_of_lt (by omega)]
  · rw [if_neg hlt, List.getElem?_append_right (by rw [Nat.sub_zero]; omega), Nat.sub_zero, h1, List.getElem?_take_of_lt (by omega), List.getElem?_drop]
    congr 1; omega
theorem joinL_bare (hl : l.length = 9) (hz : ∀ s ∈ l, s.size = 64) : (joinL l).data.toList = barePl (secsS l) 576 := by
  have hj : (joinL l).data.toList.length = 567 := by rw [data_length, joinL_size l hz, hl]
  apply List.ext_getElem?
  intro x
  by_cases hx : x < 567
  · have hi : x / 63 < 9 := by omega
    have hk : x % 63 < 63 := Nat.mod_lt _ (by decide)
    have e : 63 * (x / 63) + x % 63 = x := Nat.div_add_mod x 63
    have hbound : 64 * (x / 63) + (if x % 63 < 10 then x % 63 else x % 63 + 1) < 576 := by split <;> omega
    have h1 := barePl_get (secsS l) 576 (Nat.le_refl _) (x / 63) hi (x % 63) hk hbound
    rw [e] at h1
    rw [h1]
    have h2 : (joinL l).data.toList[x]? = (l[x / 63]?).bind fun s => (untell s).data.toList[x % 63]? := by
      unfold joinL
      rw [data_S]
      have := flat_get 63 (l.map fun s => (untell s).data.toList) (by intro y hy; simp at hy; obtain ⟨z, hz', rfl⟩ := hy; rw [data_length, untell_size z (hz z hz')]) (x / 63) (x % 63) hk
      rw [e] at this
      rw [this, List.getElem?_map]
      cases l[x / 63]? <;> rfl
    obtain ⟨s, hs⟩ : ∃ s, l[x / 63]? = some s := ⟨l[x / 63]'(by omega), List.getElem?_eq_getElem _⟩
    have hsz := hz s (List.mem_of_getElem? hs)
    have hkk : (if x % 63 < 10 then x % 63 else x % 63 + 1) < 64 := by split <;> omega
    have h3 := secsS_get hz (x / 63) (if x % 63 < 10 then x % 63 else x % 63 + 1) hkk
    rw [hs] at h2 h3
    simp only [Option.bind_some] at h2 h3
    rw [h2, untell_get s hsz _ hk, ← h3]
    have hlen : (secsS l).data.toList.length = 576 := by rw [data_length, secsS_size hl hz]
    rw [List.getElem?_eq_getElem (by omega)]
    simp [List.getD, hlen, hbound]
  · rw [List.getElem?_eq_none (by omega), List.getElem?_eq_none (by rw [barePl_length]; omega)]
theorem barePl_prefix (s : ByteArray) (t : Nat) : ∀ u, barePl s t <+: barePl s (t + u)
  | 0 => List.prefix_refl _
  | u + 1 => by
    rw [show t + (u + 1) = (t + u) + 1 by omega, barePl_succ]
    have ih := barePl_prefix s t u
    split
    · exact ih
    · exact ih.trans (List.prefix_append _ _)
/-- The page that the document finds is the program's. -/
theorem bare_join (hl : l.length = 9) (hz : ∀ s ∈ l, s.size = 64) : S (barePl (secsS l) 520) = joinP l := by
  unfold joinP
  rw [extract_cut, S_inj]
  unfold cut
  rw [List.drop_zero, Nat.sub_zero, joinL_bare hl hz]
  have h := barePl_prefix (secsS l) 520 56
  have hlen : (barePl (secsS l) 520).length = 512 := by rw [barePl_length]
  obtain ⟨r, hr⟩ := h
  rw [← hr, List.take_left' hlen]

/-- The place of byte t among the bytes of the page. -/
def bareIx (t : Nat) : Nat := 63 * (t / 64) + (if 10 < t % 64 then t % 64 - 1 else t % 64)
theorem laidAt_eq (p : ByteArray) (t : Nat) : laidAt p t = if t % 64 = 10 then 0 else p.data.toList.getD (bareIx t) 0 := rfl
theorem bareIx_lt (t : Nat) (h : t < 576) (h10 : t % 64 ≠ 10) : bareIx t < 567 := by unfold bareIx; split <;> omega
theorem bare_at (s : ByteArray) (t : Nat) (h : t < 576) (h10 : t % 64 ≠ 10) : (barePl s 576).getD (bareIx t) 0 = s.data.toList.getD t 0 := by
  have hk : (if 10 < t % 64 then t % 64 - 1 else t % 64) < 63 := by split <;> omega
  have e : (if (if 10 < t % 64 then t % 64 - 1 else t % 64) < 10 then (if 10 < t % 64 then t % 64 - 1 else t % 64) else (if 10 < t % 64 then t % 64 - 1 else t % 64) + 1) = t % 64 := by
    by_cases h1 : 10 < t % 64
    · rw [if_pos h1, if_neg (by omega)]; omega
    · rw [if_neg h1, if_pos (by omega)]
  have h1 := barePl_get s 576 (Nat.le_refl _) (t / 64) (by omega) _ hk (by rw [e]; omega)
  rw [e, Nat.div_add_mod] at h1
  unfold bareIx List.getD
  rw [h1]; rfl
theorem joinP_at (hl : l.length = 9) (hz : ∀ s ∈ l, s.size = 64) (x : Nat) : (joinP l).data.toList.getD x 0 = if x < 512 then (barePl (secsS l) 576).getD x 0 else 0 := by
  unfold joinP
  rw [extract_cut, data_S]
  unfold cut
  rw [List.drop_zero, Nat.sub_zero, joinL_bare hl hz]
  unfold List.getD
  by_cases h : x < 512
  · rw [if_pos h, List.getElem?_take_of_lt h]
  · rw [if_neg h, List.getElem?_eq_none (by rw [List.length_take]; omega)]; rfl
theorem sec_ten (hl : l.length = 9) (hz : ∀ s ∈ l, s.size = 64) (i : Nat) {s : ByteArray} (h : l[i]? = some s) : (secsS l).data.toList.getD (64 * i + 10) 0 = s.data.toList.getD 10 0 := by
  have := secsS_get hz i 10 (by decide)
  rw [h] at this
  unfold List.getD
  rw [this]; rfl
theorem rest_iff (hl : l.length = 9) (hz : ∀ s ∈ l, s.size = 64) : (joinL l).extract 512 567 = S (nul 55) ↔ ∀ x, 512 ≤ x → x < 567 → (barePl (secsS l) 576).getD x 0 = 0 := by
  rw [extract_cut, S_inj]
  unfold cut
  rw [joinL_bare hl hz]
  have hlen : (barePl (secsS l) 576).length = 567 := by rw [barePl_length]
  constructor
  · intro h x h1 h2
    have this : (List.take (567 - 512) (List.drop 512 (barePl (secsS l) 576)))[x - 512]? = (nul 55)[x - 512]? := by rw [h]
    rw [List.getElem?_take_of_lt (by omega), List.getElem?_drop, show 512 + (x - 512) = x by omega] at this
    unfold List.getD
    rw [this]
    unfold nul
    rw [List.getElem?_replicate, if_pos (by omega)]; rfl
  · intro h
    apply List.ext_getElem?
    intro i
    by_cases hi : i < 55
    · rw [List.getElem?_take_of_lt (by omega), List.getElem?_drop]
      have := h (512 + i) (by omega) (by omega)
      unfold List.getD at this
      rw [List.getElem?_eq_getElem (by omega)] at this ⊢
      simp at this
      rw [this]
      unfold nul
      rw [List.getElem?_replicate, if_pos hi]
    · rw [List.getElem?_eq_none (by rw [List.length_take]; omega), List.getElem?_eq_none (by rw [nul_length]; omega)]
/-- The document lays these sectors just if the program takes them for a page. -/
theorem laid_join (hl : l.length = 9) (hz : ∀ s ∈ l, s.size = 64) : laidS (joinP l) = secsS l ↔ joinOk l = true := by
  have hsz := secsS_size hl hz
  have hok : joinOk l = true ↔ (∀ s ∈ l, s.data.toList.getD 10 0 = 0) ∧ (joinL l).extract 512 567 = S (nul 55) := by
    unfold joinOk
    rw [Bool.and_eq_true, decide_eq_true_eq, List.all_eq_true]
    simp
  rw [hok, rest_iff hl hz]
  have hall : laidS (joinP l) = secsS l ↔ ∀ t, t < 576 → laidAt (joinP l) t = (secsS l).data.toList.getD t 0 := by
    constructor
    · intro h t ht
      rw [← h]
      unfold laidS laidL
      rw [data_S]
      simp [List.getD, ht]
    · intro h
      rw [← S_data (secsS l)]
      unfold laidS
      rw [S_inj]
      apply List.ext_getElem?
      intro t
      by_cases ht : t < 576
      · have := h t ht
        unfold List.getD at this
        have hlt : t < (secsS l).data.toList.length := by rw [data_length, hsz]; exact ht
        rw [List.getElem?_eq_getElem hlt] at this
        rw [List.getElem?_eq_getElem hlt]
        simp only [Option.getD_some] at this
        rw [← this]
        simp [laidL, ht]
      · rw [List.getElem?_eq_none (by rw [laidL_length]; omega), List.getElem?_eq_none (by rw [data_length]; omega)]
  rw [hall]
  constructor
  · intro h
    refine ⟨fun s hs => ?_, fun x h1 h2 => ?_⟩
    · obtain ⟨i, hi⟩ := List.getElem?_of_mem hs
      have hlt : i < 9 := by have := (List.getElem?_eq_some_iff.1 hi).1; omega
      have := h (64 * i + 10) (by omega)
      rw [laidAt_eq, if_pos (by omega), sec_ten hl hz i hi] at this
      exact this.symm
    · have hbound : 64 * (x / 63) + (if x % 63 < 10 then x % 63 else x % 63 + 1) < 576 := by split <;> omega
      have h10 : (64 * (x / 63) + (if x % 63 < 10 then x % 63 else x % 63 + 1)) % 64 ≠ 10 := by split <;> omega
      have hix : bareIx (64 * (x / 63) + (if x % 63 < 10 then x % 63 else x % 63 + 1)) = x := by
        unfold bareIx
        by_cases hk : x % 63 < 10
        · rw [if_pos hk, if_neg (by omega)]; omega
        · rw [if_neg hk, if_pos (by omega)]; omega
      have ht := h _ hbound
      rw [laidAt_eq, if_neg h10, hix, joinP_at hl hz, if_neg (by omega)] at ht
      have := bare_at (secsS l) _ hbound h10
      rw [hix] at this
      rw [this, ← ht]
  · rintro ⟨h1, h2⟩ t ht
    rw [laidAt_eq]
    by_cases h10 : t % 64 = 10
    · rw [if_pos h10]
      obtain ⟨s, hs⟩ : ∃ s, l[t / 64]? = some s := ⟨l[t / 64]'(by omega), List.getElem?_eq_getElem _⟩
      have := sec_ten hl hz (t / 64) hs
      rw [show 64 * (t / 64) + 10 = t by omega] at this
      rw [this, h1 s (List.mem_of_getElem? hs)]
    · rw [if_neg h10, joinP_at hl hz]
      have hb := bare_at (secsS l) t ht h10
      by_cases hx : bareIx t < 512
      · rw [if_pos hx, hb]
      · rw [if_neg hx, ← hb, h2 _ (by omega) (bareIx_lt t ht h10)]

end Go.Proofs.Ytfnfapgmicmegaa
