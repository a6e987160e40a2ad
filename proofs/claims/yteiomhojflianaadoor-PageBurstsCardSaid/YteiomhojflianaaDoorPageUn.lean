/- The contracts of page.Number and page.Unpack. -/
import Derived.Test.YteiomhojflianaaDoorPageD
import Derived.Lib.TrimByte
namespace Go.Proofs.YteiomhojflianaaDoor
open Go.RowKit
set_option linter.unusedVariables false

/-- The error of a page's bytes, or 0. -/
def pgE (s : ByteArray) : Int :=
  if s.size ≠ 512 then 2 else if leN (cut s 0 4) ≠ crcV (s.extract 4 512) then 12 else
  if leN (cut s 4 1) = 0 ∨ 2147483647 < leN (cut s 5 4) ∨ cut s 9 7 ≠ nul 7 then 2 else 0
/-- A page's kind. -/
def pgK (s : ByteArray) : Int := if pgE s = 0 then leN (cut s 4 1) else 0
/-- A page's number. -/
def pgN (s : ByteArray) : Int := if pgE s = 0 then leN (cut s 5 4) else 0

theorem pgE_size {s : ByteArray} (h : s.size ≠ 512) : pgE s = 2 := by unfold pgE; rw [if_pos h]
theorem pgE_sum {s : ByteArray} (h : s.size = 512) (h1 : leN (cut s 0 4) ≠ crcV (s.extract 4 512)) : pgE s = 12 := by unfold pgE; rw [if_neg (by omega), if_pos h1]
theorem pgE_bad {s : ByteArray} (h : s.size = 512) (h1 : leN (cut s 0 4) = crcV (s.extract 4 512)) (h2 : leN (cut s 4 1) = 0 ∨ 2147483647 < leN (cut s 5 4) ∨ cut s 9 7 ≠ nul 7) : pgE s = 2 := by
  unfold pgE; rw [if_neg (by omega), if_neg (by omega), if_pos h2]
theorem pgE_ok {s : ByteArray} (h : s.size = 512) (h1 : leN (cut s 0 4) = crcV (s.extract 4 512)) (h2 : leN (cut s 4 1) ≠ 0) (h3 : leN (cut s 5 4) ≤ 2147483647) (h4 : cut s 9 7 = nul 7) : pgE s = 0 := by
  unfold pgE; rw [if_neg (by omega), if_neg (by omega), if_neg]; rintro (h | h | h)
  · exact h2 h
  · omega
  · exact h h4
theorem pgE_inv {s : ByteArray} (h : pgE s = 0) : s.size = 512 ∧ leN (cut s 0 4) = crcV (s.extract 4 512) ∧ leN (cut s 4 1) ≠ 0 ∧ leN (cut s 5 4) ≤ 2147483647 ∧ cut s 9 7 = nul 7 := by
  unfold pgE at h
  split at h
  · cases h
  · split at h
    · cases h
    · split at h
      · cases h
      · rename_i h1 h2 h3
        simp only [not_or] at h3
        exact ⟨by omega, by omega, h3.1, by omega, by simpa using h3.2.2⟩
theorem pgE_le (s : ByteArray) : 0 ≤ pgE s ∧ pgE s ≤ 12 := by unfold pgE; split <;> (try split) <;> (try split) <;> omega

theorem trim_zero {l : List UInt8} (h : l = nul l.length) : Lib.trimB l 0 = [] := by
  have hd : ∀ n, (nul n).dropWhile (· == (0 : UInt8)) = [] := fun n => by
    induction n with
    | zero => rfl
    | succ n ih => rw [nul, List.replicate_succ]; simp only [List.dropWhile_cons]; exact ih
  have hr : (nul l.length).reverse = nul l.length := by unfold nul; rw [List.reverse_replicate]
  unfold Lib.trimB Lib.trimRightB Lib.trimLeftB
  rw [h, hr, hd]; rfl
theorem dropWhile_zero {l : List UInt8} (h : l.dropWhile (· == (0 : UInt8)) = []) : l = nul l.length := by
  induction l with
  | nil => rfl
  | cons x l ih =>
    rw [List.dropWhile_cons] at h
    split at h
    · rename_i hx
      have hx : x = 0 := by simpa using hx
      rw [hx, List.length_cons, nul, List.replicate_succ]
      exact congrArg _ (ih h)
    · cases h
theorem nul_reverse {l : List UInt8} (h : l.reverse = nul l.reverse.length) : l = nul l.length := by
  have := congrArg List.reverse h
  rw [List.reverse_reverse, List.length_reverse] at this
  rw [this]; unfold nul; rw [List.reverse_replicate, List.length_replicate]
theorem trim_ne {l : List UInt8} (h : l ≠ nul l.length) : Lib.trimB l 0 ≠ [] := by
  intro e
  apply h
  unfold Lib.trimB Lib.trimRightB Lib.trimLeftB at e
  have h1 := dropWhile_zero e
  have h2 : l.reverse.dropWhile (· == (0 : UInt8)) = [] := by
    have h3 := nul_reverse (l := l.reverse.dropWhile (· == (0 : UInt8))) h1
    have h4 : ∀ m : List UInt8, m.dropWhile (· == (0 : UInt8)) = nul (m.dropWhile (· == (0 : UInt8))).length → m.dropWhile (· == (0 : UInt8)) = [] := fun m hm => by
      cases hd : m.dropWhile (· == (0 : UInt8)) with
      | nil => rfl
      | cons x r =>
        exfalso
        rw [hd, List.length_cons, nul, List.replicate_succ] at hm
        have hx : x = 0 := by injection hm
        have := List.head_dropWhile_not (p := (· == (0 : UInt8))) (l := m) (by rw [hd]; exact List.cons_ne_nil _ _)
        simp [hd, hx] at this
    exact h4 _ h3
  exact nul_reverse (dropWhile_zero h2)

/-- strings.Trim of noughts: nothing is left. -/
theorem trim_yes (t : ByteArray) (w : World) (h : t.data.toList = nul t.data.toList.length) (hs : t.size ≤ 9223372036854775807) :
    Calls Tryd.prog 21 #[.string t, .string ⟨#[0]⟩] w fun e w' => e = .returned (.string ⟨#[]⟩) ∧ Below w.heap.size w w' := by
  refine (Tryd.strings_Trim_one t 0 (by decide) w hs).mono ?_
  rintro e w' ⟨rfl, hw⟩
  rw [trim_zero h]
  refine ⟨rfl, ?_⟩
  rcases hw with rfl | rfl
  · exact Below.refl _ _
  · exact (Below.refl _ _).drew
/-- strings.Trim of bytes that are not all noughts. -/
theorem trim_no (t : ByteArray) (w : World) (h : t.data.toList ≠ nul t.data.toList.length) (hs : t.size ≤ 9223372036854775807) :
    Calls Tryd.prog 21 #[.string t, .string ⟨#[0]⟩] w fun e w' => ∃ r : ByteArray, e = .returned (.string r) ∧ (r.toList.isEmpty) = false ∧ Below w.heap.size w w' := by
  refine (Tryd.strings_Trim_one t 0 (by decide) w hs).mono ?_
  rintro e w' ⟨rfl, hw⟩
  refine ⟨_, rfl, ?_, ?_⟩
  · have := trim_ne h
    rw [ByteArray.toList_eq]
    cases hx : Lib.trimB t.data.toList 0 with
    | nil => exact absurd hx this
    | cons a l => rfl
  · rcases hw with rfl | rfl
    · exact Below.refl _ _
    · exact (Below.refl _ _).drew

theorem u64_ne {a b : Int} (h : a ≠ b) : (a != b) = true := by simpa using h
theorem cut_bd4 (s : ByteArray) (a : Nat) : 0 ≤ leN (cut s a 4) ∧ leN (cut s a 4) < 4294967296 := by
  have h := leN_bd (cut s a 4)
  have hl : (cut s a 4).length ≤ 4 := by unfold cut; simp; omega
  have : (256 : Int) ^ (cut s a 4).length ≤ 4294967296 := by
    generalize (cut s a 4).length = j at hl
    rcases j with _ | _ | _ | _ | _ | j <;> first | decide | omega
  omega
theorem cut_bd1 (s : ByteArray) (a : Nat) : 0 ≤ leN (cut s a 1) ∧ leN (cut s a 1) < 256 := by
  have h := leN_bd (cut s a 1)
  have hl : (cut s a 1).length ≤ 1 := by unfold cut; simp; omega
  have : (256 : Int) ^ (cut s a 1).length ≤ 256 := by
    generalize (cut s a 1).length = j at hl
    rcases j with _ | _ | j <;> first | decide | omega
  omega
theorem extract_mid (s : ByteArray) (h : s.size = 512) : (s.extract 9 16).data.toList = cut s 9 7 ∧ (s.extract 9 16).data.toList.length = 7 := by
  rw [extract_cut, data_S]; exact ⟨rfl, cut_length s 9 7 (by omega)⟩

set_option maxRecDepth 100000 in
set_option maxHeartbeats 1000000 in
theorem read_size (s : ByteArray) (w : World) (h : ((s.size : Int) != 512) = true) :
    Calls Tryd.prog 12 #[.string s] w fun e w' => e = .returned (.tuple #[.int .i64 0, .int .i64 0, .int .i64 2]) ∧ Below w.heap.size w w' := by
  go_enter Tryd.func12, Tryd.ntmps12
  go_wp2_with fail
  go_ret3
  exact ⟨rfl, Below.refl _ _⟩

set_option maxRecDepth 100000 in
set_option maxHeartbeats 1000000 in
theorem read_sum (s : ByteArray) (w : World) (h : s.size = 512) (h1 : leN (cut s 0 4) ≠ crcV (s.extract 4 512)) :
    Calls Tryd.prog 12 #[.string s] w fun e w' => e = .returned (.tuple #[.int .i64 0, .int .i64 0, .int .i64 12]) ∧ Below w.heap.size w w' := by
  have d1 : ((s.size : Int) != 512) = false := by rw [h]; rfl
  have d2 := u64_ne h1
  have hb := crcV_bd (s.extract 4 512)
  have hle : 512 ≤ s.size := by omega
  have hle' : s.size ≤ 512 := by omega
  have hz : (s.extract 4 512).size ≤ 9223372036854775807 := by rw [ByteArray.size_extract]; omega
  have u1 := u64_int (crcV (s.extract 4 512)) hb.1 (by omega)
  clear h1
  have H := Lib.hid h
  clear h
  go_enter Tryd.func12, Tryd.ntmps12
  go_wp2_with fail
  refine (get_any s 0 4 _ (by omega) (by omega) (by omega)).mono ?_
  rintro e w1 ⟨rfl, rfl⟩
  go_wp2_with fail
  rw [H.out]
  refine (crcSum_any (s.extract 4 512) _ _ (cell_new _ _ _) hz).mono ?_
  rintro e w5 ⟨rfl, rfl⟩
  go_wp2_with fail
  go_ret3
  exact ⟨rfl, (Below.refl _ _).alloc (Nat.le_refl _) _⟩

set_option maxRecDepth 100000 in
set_option maxHeartbeats 1000000 in
theorem read_kind (s : ByteArray) (w : World) (h : s.size = 512) (h1 : leN (cut s 0 4) = crcV (s.extract 4 512)) (h2 : leN (cut s 4 1) = 0) :
    Calls Tryd.prog 12 #[.string s] w fun e w' => e = .returned (.tuple #[.int .i64 0, .int .i64 0, .int .i64 2]) ∧ Below w.heap.size w w' := by
  have d1 : ((s.size : Int) != 512) = false := by rw [h]; rfl
  have d2 : (crcV (s.extract 4 512) != crcV (s.extract 4 512)) = false := by simp
  have hb := crcV_bd (s.extract 4 512)
  have hle : 512 ≤ s.size := by omega
  have hle' : s.size ≤ 512 := by omega
  have hz : (s.extract 4 512).size ≤ 9223372036854775807 := by rw [ByteArray.size_extract]; omega
  have hz9 : (s.extract 9 16).size ≤ 9223372036854775807 := by rw [ByteArray.size_extract]; omega
  have u1 := u64_int (crcV (s.extract 4 512)) hb.1 (by omega)
  have b1 := cut_bd1 s 4
  have b4 := cut_bd4 s 5
  obtain ⟨hx1, hx2⟩ := extract_mid s h
  have X1 := Lib.hid hx1
  have X2 := Lib.hid hx2
  have H := Lib.hid h
  have H1 := Lib.hid h1
  clear h h1 hx1 hx2
  have g1 : (leN (cut s 4 1) == 0) = true := by rw [h2]; rfl
  clear h2
  go_enter Tryd.func12, Tryd.ntmps12
  go_wp2_with fail
  refine (get_any s 0 4 _ (by omega) (by omega) (by omega)).mono ?_
  rintro e w1 ⟨rfl, rfl⟩
  rw [H1.out]
  go_wp2_with fail
  rw [H.out]
  refine (crcSum_any (s.extract 4 512) _ _ (cell_new _ _ _) hz).mono ?_
  rintro e w5 ⟨rfl, rfl⟩
  go_wp2_with fail
  refine (get_any s 4 1 _ (by omega) (by omega) (by omega)).mono ?_
  rintro e w1 ⟨rfl, rfl⟩
  go_wp2_with fail
  refine (get_any s 5 4 _ (by omega) (by omega) (by omega)).mono ?_
  rintro e w1 ⟨rfl, rfl⟩
  go_wp2_with fail
  go_ret3
  exact ⟨rfl, (Below.refl _ _).alloc (Nat.le_refl _) _⟩

set_option maxRecDepth 100000 in
set_option maxHeartbeats 1000000 in
theorem read_no (s : ByteArray) (w : World) (h : s.size = 512) (h1 : leN (cut s 0 4) = crcV (s.extract 4 512)) (h2 : leN (cut s 4 1) ≠ 0) (h3 : 2147483647 < leN (cut s 5 4)) :
    Calls Tryd.prog 12 #[.string s] w fun e w' => e = .returned (.tuple #[.int .i64 0, .int .i64 0, .int .i64 2]) ∧ Below w.heap.size w w' := by
  have d1 : ((s.size : Int) != 512) = false := by rw [h]; rfl
  have d2 : (crcV (s.extract 4 512) != crcV (s.extract 4 512)) = false := by simp
  have hb := crcV_bd (s.extract 4 512)
  have hle : 512 ≤ s.size := by omega
  have hle' : s.size ≤ 512 := by omega
  have hz : (s.extract 4 512).size ≤ 9223372036854775807 := by rw [ByteArray.size_extract]; omega
  have hz9 : (s.extract 9 16).size ≤ 9223372036854775807 := by rw [ByteArray.size_extract]; omega
  have u1 := u64_int (crcV (s.extract 4 512)) hb.1 (by omega)
  have b1 := cut_bd1 s 4
  have b4 := cut_bd4 s 5
  obtain ⟨hx1, hx2⟩ := extract_mid s h
  have X1 := Lib.hid hx1
  have X2 := Lib.hid hx2
  have H := Lib.hid h
  have H1 := Lib.hid h1
  clear h h1 hx1 hx2
  have g1 : (leN (cut s 4 1) == 0) = false := by simpa using h2
  clear h2
  go_enter Tryd.func12, Tryd.ntmps12
  go_wp2_with fail
  refine (get_any s 0 4 _ (by omega) (by omega) (by omega)).mono ?_
  rintro e w1 ⟨rfl, rfl⟩
  rw [H1.out]
  go_wp2_with fail
  rw [H.out]
  refine (crcSum_any (s.extract 4 512) _ _ (cell_new _ _ _) hz).mono ?_
  rintro e w5 ⟨rfl, rfl⟩
  go_wp2_with fail
  refine (get_any s 4 1 _ (by omega) (by omega) (by omega)).mono ?_
  rintro e w1 ⟨rfl, rfl⟩
  go_wp2_with fail
  refine (get_any s 5 4 _ (by omega) (by omega) (by omega)).mono ?_
  rintro e w1 ⟨rfl, rfl⟩
  go_wp2_with fail
  go_ret3
  exact ⟨rfl, (Below.refl _ _).alloc (Nat.le_refl _) _⟩

set_option maxRecDepth 100000 in
set_option maxHeartbeats 1000000 in
theorem read_mid (s : ByteArray) (w : World) (h : s.size = 512) (h1 : leN (cut s 0 4) = crcV (s.extract 4 512)) (h2 : leN (cut s 4 1) ≠ 0) (h3 : leN (cut s 5 4) ≤ 2147483647) (h4 : cut s 9 7 ≠ nul 7) :
    Calls Tryd.prog 12 #[.string s] w fun e w' => e = .returned (.tuple #[.int .i64 0, .int .i64 0, .int .i64 2]) ∧ Below w.heap.size w w' := by
  have d1 : ((s.size : Int) != 512) = false := by rw [h]; rfl
  have d2 : (crcV (s.extract 4 512) != crcV (s.extract 4 512)) = false := by simp
  have hb := crcV_bd (s.extract 4 512)
  have hle : 512 ≤ s.size := by omega
  have hle' : s.size ≤ 512 := by omega
  have hz : (s.extract 4 512).size ≤ 9223372036854775807 := by rw [ByteArray.size_extract]; omega
  have hz9 : (s.extract 9 16).size ≤ 9223372036854775807 := by rw [ByteArray.size_extract]; omega
  have u1 := u64_int (crcV (s.extract 4 512)) hb.1 (by omega)
  have b1 := cut_bd1 s 4
  have b4 := cut_bd4 s 5
  obtain ⟨hx1, hx2⟩ := extract_mid s h
  have X1 := Lib.hid hx1
  have X2 := Lib.hid hx2
  have H := Lib.hid h
  have H1 := Lib.hid h1
  clear h h1 hx1 hx2
  have g1 : (leN (cut s 4 1) == 0) = false := by simpa using h2
  have H4 := Lib.hid h4
  clear h2 h4
  go_enter Tryd.func12, Tryd.ntmps12
  go_wp2_with fail
  refine (get_any s 0 4 _ (by omega) (by omega) (by omega)).mono ?_
  rintro e w1 ⟨rfl, rfl⟩
  rw [H1.out]
  go_wp2_with fail
  rw [H.out]
  refine (crcSum_any (s.extract 4 512) _ _ (cell_new _ _ _) hz).mono ?_
  rintro e w5 ⟨rfl, rfl⟩
  go_wp2_with fail
  refine (get_any s 4 1 _ (by omega) (by omega) (by omega)).mono ?_
  rintro e w1 ⟨rfl, rfl⟩
  go_wp2_with fail
  refine (get_any s 5 4 _ (by omega) (by omega) (by omega)).mono ?_
  rintro e w1 ⟨rfl, rfl⟩
  go_wp2_with fail
  refine (trim_no (s.extract 9 16) _ (by rw [X2.out, X1.out]; exact H4.out) hz9).mono ?_
  rintro e w1 ⟨r, rfl, hr, hb1⟩
  have hr' : (!r.toList.isEmpty) = true := by rw [hr]; rfl
  go_wp2_with fail
  go_ret3
  exact ⟨rfl, below_step hb1 ((Below.refl _ _).alloc (Nat.le_refl _) _)⟩

set_option maxRecDepth 100000 in
set_option maxHeartbeats 1000000 in
theorem read_ok (s : ByteArray) (w : World) (h : s.size = 512) (h1 : leN (cut s 0 4) = crcV (s.extract 4 512)) (h2 : leN (cut s 4 1) ≠ 0) (h3 : leN (cut s 5 4) ≤ 2147483647) (h4 : cut s 9 7 = nul 7) :
    Calls Tryd.prog 12 #[.string s] w fun e w' => e = .returned (.tuple #[.int .i64 (leN (cut s 4 1)), .int .i64 (leN (cut s 5 4)), .int .i64 0]) ∧ Below w.heap.size w w' := by
  have d1 : ((s.size : Int) != 512) = false := by rw [h]; rfl
  have d2 : (crcV (s.extract 4 512) != crcV (s.extract 4 512)) = false := by simp
  have hb := crcV_bd (s.extract 4 512)
  have hle : 512 ≤ s.size := by omega
  have hle' : s.size ≤ 512 := by omega
  have hz : (s.extract 4 512).size ≤ 9223372036854775807 := by rw [ByteArray.size_extract]; omega
  have hz9 : (s.extract 9 16).size ≤ 9223372036854775807 := by rw [ByteArray.size_extract]; omega
  have u1 := u64_int (crcV (s.extract 4 512)) hb.1 (by omega)
  have b1 := cut_bd1 s 4
  have b4 := cut_bd4 s 5
  obtain ⟨hx1, hx2⟩ := extract_mid s h
  have X1 := Lib.hid hx1
  have X2 := Lib.hid hx2
  have H := Lib.hid h
  have H1 := Lib.hid h1
  clear h h1 hx1 hx2
  have g1 : (leN (cut s 4 1) == 0) = false := by simpa using h2
  have H4 := Lib.hid h4
  clear h2 h4
  go_enter Tryd.func12, Tryd.ntmps12
  go_wp2_with fail
  refine (get_any s 0 4 _ (by omega) (by omega) (by omega)).mono ?_
  rintro e w1 ⟨rfl, rfl⟩
  rw [H1.out]
  go_wp2_with fail
  rw [H.out]
  refine (crcSum_any (s.extract 4 512) _ _ (cell_new _ _ _) hz).mono ?_
  rintro e w5 ⟨rfl, rfl⟩
  go_wp2_with fail
  refine (get_any s 4 1 _ (by omega) (by omega) (by omega)).mono ?_
  rintro e w1 ⟨rfl, rfl⟩
  go_wp2_with fail
  refine (get_any s 5 4 _ (by omega) (by omega) (by omega)).mono ?_
  rintro e w1 ⟨rfl, rfl⟩
  go_wp2_with fail
  refine (trim_yes (s.extract 9 16) _ (by rw [X2.out, X1.out]; exact H4.out) hz9).mono ?_
  rintro e w1 ⟨rfl, hb1⟩
  go_wp2_with fail
  go_ret3
  exact ⟨rfl, below_step hb1 ((Below.refl _ _).alloc (Nat.le_refl _) _)⟩

/-- page.read at any bytes. -/
theorem read_any (s : ByteArray) (w : World) :
    Calls Tryd.prog 12 #[.string s] w fun e w' => e = .returned (.tuple #[.int .i64 (pgK s), .int .i64 (pgN s), .int .i64 (pgE s)]) ∧ Below w.heap.size w w' := by
  unfold pgK pgN
  by_cases h : s.size = 512
  · by_cases h1 : leN (cut s 0 4) = crcV (s.extract 4 512)
    · by_cases h2 : leN (cut s 4 1) = 0
      · rw [pgE_bad h h1 (.inl h2)]; exact read_kind s w h h1 h2
      · by_cases h3 : leN (cut s 5 4) ≤ 2147483647
        · by_cases h4 : cut s 9 7 = nul 7
          · rw [pgE_ok h h1 h2 h3 h4]; exact read_ok s w h h1 h2 h3 h4
          · rw [pgE_bad h h1 (.inr (.inr h4))]; exact read_mid s w h h1 h2 h3 h4
        · rw [pgE_bad h h1 (.inr (.inl (by omega)))]; exact read_no s w h h1 h2 (by omega)
    · rw [pgE_sum h h1]; exact read_sum s w h h1
  · rw [pgE_size h]; exact read_size s w (by simp; omega)

set_option maxHeartbeats 1000000 in
theorem number_any (s : ByteArray) (w : World) :
    Calls Tryd.prog 8 #[.string s] w fun e w' => e = .returned (.tuple #[.int .i64 (pgN s), .int .i64 (pgE s)]) ∧ Below w.heap.size w w' := by
  go_enter Tryd.func8, Tryd.ntmps8
  go_wp2_with fail
  refine (read_any s _).mono ?_
  rintro e w1 ⟨rfl, hb1⟩
  go_wp2_with fail
  go_ret2
  exact ⟨rfl, hb1⟩

/-- What page.Unpack answers. -/
def unE (s : ByteArray) (no : Int) : Int := if pgE s = 0 then (if pgN s = no then 0 else 13) else pgE s
def unK (s : ByteArray) (no : Int) : Int := if unE s no = 0 then pgK s else 0
def unR (s : ByteArray) (no : Int) : ByteArray := if unE s no = 0 then s.extract 16 512 else ⟨#[]⟩

set_option maxRecDepth 100000 in
set_option maxHeartbeats 1000000 in
theorem unpack_any (s : ByteArray) (no : Int) (w : World) :
    Calls Tryd.prog 11 #[.string s, .int .i64 no] w fun e w' => e = .returned (.tuple #[.int .i64 (unK s no), .string (unR s no), .int .i64 (unE s no)]) ∧ Below w.heap.size w w' := by
  unfold unK unR
  by_cases h : pgE s = 0
  · have hz := (pgE_inv h).1
    by_cases hn : pgN s = no
    · have e0 : unE s no = 0 := by unfold unE; rw [if_pos h, if_pos hn]
      rw [e0, if_pos rfl, if_pos rfl]
      have d1 : (pgE s != 0) = false := by rw [h]; rfl
      have d2 : (pgN s != no) = false := by rw [hn]; simp
      have hle : 512 ≤ s.size := by omega
      have hle' : s.size ≤ 512 := by omega
      have HZ := Lib.hid hz
      clear h hn e0 hz
      go_enter Tryd.func11, Tryd.ntmps11
      go_wp2_with fail
      refine (read_any s _).mono ?_
      rintro e w1 ⟨rfl, hb1⟩
      go_wp2_with fail
      go_quiet (fail)
      go_wp2_with fail
      go_ret3
      exact ⟨by simp [HZ.out], below_drewN hb1 _⟩
    · have e0 : unE s no = 13 := by unfold unE; rw [if_pos h, if_neg hn]
      rw [e0, if_neg (by decide), if_neg (by decide)]
      have d1 : (pgE s != 0) = false := by rw [h]; rfl
      have d2 := u64_ne hn
      clear h hn e0 hz
      go_enter Tryd.func11, Tryd.ntmps11
      go_wp2_with fail
      refine (read_any s _).mono ?_
      rintro e w1 ⟨rfl, hb1⟩
      go_wp2_with fail
      go_ret3
      exact ⟨rfl, hb1⟩
  · have e0 : unE s no = pgE s := by unfold unE; rw [if_neg h]
    rw [e0, if_neg h, if_neg h]
    have d1 := u64_ne h
    clear h e0
    go_enter Tryd.func11, Tryd.ntmps11
    go_wp2_with fail
    refine (read_any s _).mono ?_
    rintro e w1 ⟨rfl, hb1⟩
    go_wp2_with fail
    go_ret3
    exact ⟨rfl, hb1⟩

end Go.Proofs.YteiomhojflianaaDoor
