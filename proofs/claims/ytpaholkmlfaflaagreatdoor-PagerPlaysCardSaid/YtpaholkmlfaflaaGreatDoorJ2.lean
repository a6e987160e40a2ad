/- Lemmas on the way to the statement: PageUn, Mark, Frame, DiskRep, Redo1, Tail, Redo2, Disk. -/
import Derived.Test.YtpaholkmlfaflaaGreatDoorJ1
import Derived.Lib.TrimByte
import Derived.Lib.Hide
import Derived.Deep.QuietTactic
import Derived.BigQuiet
import Derived.Deep.OwnRows
import Derived.Deep.Draws
import Derived.Maps.Own
import Derived.Maps.OwnSet
import Derived.Lib.SmallJoins
import Derived.ArgAppend
import Derived.Maps.OwnOps
import Derived.Deep.RegionHeld3
import Derived.Deep.RegionLaw
import Derived.Deep.AppendLies
import Derived.BigRegion
import Derived.Deep.Quiet
import Derived.StillTail
import Derived.Below
import Derived.WalkSpells
import Derived.WalkLawsBesides
import Derived.Outline
namespace Go.Proofs.YtpaholkmlfaflaaGreatDoor
open Go.RowKit
set_option linter.unusedVariables false

/-- The error of a page's bytes, or 0. -/
def pgE (s : ByteArray) : Int :=
  if s.size ≠ 512 then 2 else if leN (cut s 0 4) ≠ crcV (s.extract 4 512) then 12 else
  if leN (cut s 4 1) = 0 ∨ 2147483647 < leN (cut s 5 4) ∨ cut s 9 7 ≠ nul 7 then 2 else 0
/-- A page's kind. -/
def pgK (s : ByteArray) : Int := if pgE s = 0 then leN (cut s 4 1) else 0
/-- A page's number. -/
def pgN (s : ByteArray) : Int := if pgE s = 0 then leN (cut s 5 4) else 0

theorem pgE_size {s : ByteArray} (h : s.size ≠ 512) : pgE s = 2 := by unfold pgE; rw [if_pos h]
theorem pgE_sum {s : ByteArray} (h : s.size = 512) (h1 : leN (cut s 0 4) ≠ crcV (s.extract 4 512)) : pgE s = 12 := by unfold pgE; rw [if_neg (by omega), if_pos h1]
theorem pgE_bad {s : ByteArray} (h : s.size = 512) (h1 : leN (cut s 0 4) = crcV (s.extract 4 512)) (h2 : leN (cut s 4 1) = 0 ∨ 2147483647 < leN (cut s 5 4) ∨ cut s 9 7 ≠ nul 7) : pgE s = 2 := by
  unfold pgE; rw [if_neg (by omega), if_neg (by omega), if_pos h2]
theorem pgE_ok {s : ByteArray} (h : s.size = 512) (h1 : leN (cut s 0 4) = crcV (s.extract 4 512)) (h2 : leN (cut s 4 1) ≠ 0) (h3 : leN (cut s 5 4) ≤ 2147483647) (h4 : cut s 9 7 = nul 7) : pgE s = 0 := by
  unfold pgE; rw [if_neg (by omega), if_neg (by omega), if_neg]; rintro (h | h | h)
  · exact h2 h
  · omega
  · exact h h4
theorem pgE_inv {s : ByteArray} (h : pgE s = 0) : s.size = 512 ∧ leN (cut s 0 4) = crcV (s.extract 4 512) ∧ leN (cut s 4 1) ≠ 0 ∧ leN (cut s 5 4) ≤ 2147483647 ∧ cut s 9 7 = nul 7 := by
  unfold pgE at h
  split at h
  · cases h
  · split at h
    · cases h
    · split at h
      · cases h
      · rename_i h1 h2 h3
        simp only [not_or] at h3
        exact ⟨by omega, by omega, h3.1, by omega, by simpa using h3.2.2⟩
theorem pgE_le (s : ByteArray) : 0 ≤ pgE s ∧ pgE s ≤ 12 := by unfold pgE; split <;> (try split) <;> (try split) <;> omega

theorem trim_zero {l : List UInt8} (h : l = nul l.length) : Lib.trimB l 0 = [] := by
  have hd : ∀ n, (nul n).dropWhile (· == (0 : UInt8)) = [] := fun n => by
    induction n with
    | zero => rfl
    | succ n ih => rw [nul, List.replicate_succ]; simp only [List.dropWhile_cons]; exact ih
  have hr : (nul l.length).reverse = nul l.length := by unfold nul; rw [List.reverse_replicate]
  unfold Lib.trimB Lib.trimRightB Lib.trimLeftB
  rw [h, hr, hd]; rfl
theorem dropWhile_zero {l : List UInt8} (h : l.dropWhile (· == (0 : UInt8)) = []) : l = nul l.length := by
  induction l with
  | nil => rfl
  | cons x l ih =>
    rw [List.dropWhile_cons] at h
    split at h
    · rename_i hx
      have hx : x = 0 := by simpa using hx
      rw [hx, List.length_cons, nul, List.replicate_succ]
      exact congrArg _ (ih h)
    · cases h
theorem nul_reverse {l : List UInt8} (h : l.reverse = nul l.reverse.length) : l = nul l.length := by
  have := congrArg List.reverse h
  rw [List.reverse_reverse, List.length_reverse] at this
  rw [this]; unfold nul; rw [List.reverse_replicate, List.length_replicate]
theorem trim_ne {l : List UInt8} (h : l ≠ nul l.length) : Lib.trimB l 0 ≠ [] := by
  intro e
  apply h
  unfold Lib.trimB Lib.trimRightB Lib.trimLeftB at e
  have h1 := dropWhile_zero e
  have h2 : l.reverse.dropWhile (· == (0 : UInt8)) = [] := by
    have h3 := nul_reverse (l := l.reverse.dropWhile (· == (0 : UInt8))) h1
    have h4 : ∀ m : List UInt8, m.dropWhile (· == (0 : UInt8)) = nul (m.dropWhile (· == (0 : UInt8))).length → m.dropWhile (· == (0 : UInt8)) = [] := fun m hm => by
      cases hd : m.dropWhile (· == (0 : UInt8)) with
      | nil => rfl
      | cons x r =>
        exfalso
        rw [hd, List.length_cons, nul, List.replicate_succ] at hm
        have hx : x = 0 := by injection hm
        have := List.head_dropWhile_not (p := (· == (0 : UInt8))) (l := m) (by rw [hd]; exact List.cons_ne_nil _ _)
        simp [hd, hx] at this
    exact h4 _ h3
  exact nul_reverse (dropWhile_zero h2)

/-- strings.Trim of noughts: nothing is left. -/
theorem trim_yes (t : ByteArray) (w : World) (h : t.data.toList = nul t.data.toList.length) (hs : t.size ≤ 9223372036854775807) :
    Calls Tryz.prog 111 #[.string t, .string ⟨#[0]⟩] w fun e w' => e = .returned (.string ⟨#[]⟩) ∧ Below w.heap.size w w' := by
  refine (Tryz.strings_Trim_one t 0 (by decide) w hs).mono ?_
  rintro e w' ⟨rfl, hw⟩
  rw [trim_zero h]
  refine ⟨rfl, ?_⟩
  rcases hw with rfl | rfl
  · exact Below.refl _ _
  · exact (Below.refl _ _).drew
/-- strings.Trim of bytes that are not all noughts. -/
theorem trim_no (t : ByteArray) (w : World) (h : t.data.toList ≠ nul t.data.toList.length) (hs : t.size ≤ 9223372036854775807) :
    Calls Tryz.prog 111 #[.string t, .string ⟨#[0]⟩] w fun e w' => ∃ r : ByteArray, e = .returned (.string r) ∧ (r.toList.isEmpty) = false ∧ Below w.heap.size w w' := by
  refine (Tryz.strings_Trim_one t 0 (by decide) w hs).mono ?_
  rintro e w' ⟨rfl, hw⟩
  refine ⟨_, rfl, ?_, ?_⟩
  · have := trim_ne h
    rw [ByteArray.toList_eq]
    cases hx : Lib.trimB t.data.toList 0 with
    | nil => exact absurd hx this
    | cons a l => rfl
  · rcases hw with rfl | rfl
    · exact Below.refl _ _
    · exact (Below.refl _ _).drew

theorem u64_ne {a b : Int} (h : a ≠ b) : (a != b) = true := by simpa using h
theorem cut_bd4 (s : ByteArray) (a : Nat) : 0 ≤ leN (cut s a 4) ∧ leN (cut s a 4) < 4294967296 := by
  have h := leN_bd (cut s a 4)
  have hl : (cut s a 4).length ≤ 4 := by unfold cut; simp; omega
  have : (256 : Int) ^ (cut s a 4).length ≤ 4294967296 := by
    generalize (cut s a 4).length = j at hl
    rcases j with _ | _ | _ | _ | _ | j <;> first | decide | omega
  omega
theorem cut_bd1 (s : ByteArray) (a : Nat) : 0 ≤ leN (cut s a 1) ∧ leN (cut s a 1) < 256 := by
  have h := leN_bd (cut s a 1)
  have hl : (cut s a 1).length ≤ 1 := by unfold cut; simp; omega
  have : (256 : Int) ^ (cut s a 1).length ≤ 256 := by
    generalize (cut s a 1).length = j at hl
    rcases j with _ | _ | j <;> first | decide | omega
  omega
theorem extract_mid (s : ByteArray) (h : s.size = 512) : (s.extract 9 16).data.toList = cut s 9 7 ∧ (s.extract 9 16).data.toList.length = 7 := by
  rw [extract_cut, data_S]; exact ⟨rfl, cut_length s 9 7 (by omega)⟩

set_option maxRecDepth 100000 in
set_option maxHeartbeats 1000000 in
theorem read_size (s : ByteArray) (w : World) (h : ((s.size : Int) != 512) = true) :
    Calls Tryz.prog 89 #[.string s] w fun e w' => e = .returned (.tuple #[.int .i64 0, .int .i64 0, .int .i64 2]) ∧ Below w.heap.size w w' := by
  go_enter Tryz.func89, Tryz.ntmps89
  go_wp2_with fail
  go_ret3
  exact ⟨rfl, Below.refl _ _⟩

set_option maxRecDepth 100000 in
set_option maxHeartbeats 1000000 in
theorem read_sum (s : ByteArray) (w : World) (h : s.size = 512) (h1 : leN (cut s 0 4) ≠ crcV (s.extract 4 512)) :
    Calls Tryz.prog 89 #[.string s] w fun e w' => e = .returned (.tuple #[.int .i64 0, .int .i64 0, .int .i64 12]) ∧ Below w.heap.size w w' := by
  have d1 : ((s.size : Int) != 512) = false := by rw [h]; rfl
  have d2 := u64_ne h1
  have hb := crcV_bd (s.extract 4 512)
  have hle : 512 ≤ s.size := by omega
  have hle' : s.size ≤ 512 := by omega
  have hz : (s.extract 4 512).size ≤ 9223372036854775807 := by rw [ByteArray.size_extract]; omega
  have u1 := u64_int (crcV (s.extract 4 512)) hb.1 (by omega)
  clear h1
  have H := Lib.hid h
  clear h
  go_enter Tryz.func89, Tryz.ntmps89
  go_wp2_with fail
  refine (get_any s 0 4 _ (by omega) (by omega) (by omega)).mono ?_
  rintro e w1 ⟨rfl, rfl⟩
  go_wp2_with fail
  rw [H.out]
  refine (crcSum_any (s.extract 4 512) _ _ (cell_new _ _ _) hz).mono ?_
  rintro e w5 ⟨rfl, rfl⟩
  go_wp2_with fail
  go_ret3
  exact ⟨rfl, (Below.refl _ _).alloc (Nat.le_refl _) _⟩

set_option maxRecDepth 100000 in
set_option maxHeartbeats 1000000 in
theorem read_kind (s : ByteArray) (w : World) (h : s.size = 512) (h1 : leN (cut s 0 4) = crcV (s.extract 4 512)) (h2 : leN (cut s 4 1) = 0) :
    Calls Tryz.prog 89 #[.string s] w fun e w' => e = .returned (.tuple #[.int .i64 0, .int .i64 0, .int .i64 2]) ∧ Below w.heap.size w w' := by
  have d1 : ((s.size : Int) != 512) = false := by rw [h]; rfl
  have d2 : (crcV (s.extract 4 512) != crcV (s.extract 4 512)) = false := by simp
  have hb := crcV_bd (s.extract 4 512)
  have hle : 512 ≤ s.size := by omega
  have hle' : s.size ≤ 512 := by omega
  have hz : (s.extract 4 512).size ≤ 9223372036854775807 := by rw [ByteArray.size_extract]; omega
  have hz9 : (s.extract 9 16).size ≤ 9223372036854775807 := by rw [ByteArray.size_extract]; omega
  have u1 := u64_int (crcV (s.extract 4 512)) hb.1 (by omega)
  have b1 := cut_bd1 s 4
  have b4 := cut_bd4 s 5
  obtain ⟨hx1, hx2⟩ := extract_mid s h
  have X1 := Lib.hid hx1
  have X2 := Lib.hid hx2
  have H := Lib.hid h
  have H1 := Lib.hid h1
  clear h h1 hx1 hx2
  have g1 : (leN (cut s 4 1) == 0) = true := by rw [h2]; rfl
  clear h2
  go_enter Tryz.func89, Tryz.ntmps89
  go_wp2_with fail
  refine (get_any s 0 4 _ (by omega) (by omega) (by omega)).mono ?_
  rintro e w1 ⟨rfl, rfl⟩
  rw [H1.out]
  go_wp2_with fail
  rw [H.out]
  refine (crcSum_any (s.extract 4 512) _ _ (cell_new _ _ _) hz).mono ?_
  rintro e w5 ⟨rfl, rfl⟩
  go_wp2_with fail
  refine (get_any s 4 1 _ (by omega) (by omega) (by omega)).mono ?_
  rintro e w1 ⟨rfl, rfl⟩
  go_wp2_with fail
  refine (get_any s 5 4 _ (by omega) (by omega) (by omega)).mono ?_
  rintro e w1 ⟨rfl, rfl⟩
  go_wp2_with fail
  go_ret3
  exact ⟨rfl, (Below.refl _ _).alloc (Nat.le_refl _) _⟩

set_option maxRecDepth 100000 in
set_option maxHeartbeats 1000000 in
theorem read_no (s : ByteArray) (w : World) (h : s.size = 512) (h1 : leN (cut s 0 4) = crcV (s.extract 4 512)) (h2 : leN (cut s 4 1) ≠ 0) (h3 : 2147483647 < leN (cut s 5 4)) :
    Calls Tryz.prog 89 #[.string s] w fun e w' => e = .returned (.tuple #[.int .i64 0, .int .i64 0, .int .i64 2]) ∧ Below w.heap.size w w' := by
  have d1 : ((s.size : Int) != 512) = false := by rw [h]; rfl
  have d2 : (crcV (s.extract 4 512) != crcV (s.extract 4 512)) = false := by simp
  have hb := crcV_bd (s.extract 4 512)
  have hle : 512 ≤ s.size := by omega
  have hle' : s.size ≤ 512 := by omega
  have hz : (s.extract 4 512).size ≤ 9223372036854775807 := by rw [ByteArray.size_extract]; omega
  have hz9 : (s.extract 9 16).size ≤ 9223372036854775807 := by rw [ByteArray.size_extract]; omega
  have u1 := u64_int (crcV (s.extract 4 512)) hb.1 (by omega)
  have b1 := cut_bd1 s 4
  have b4 := cut_bd4 s 5
  obtain ⟨hx1, hx2⟩ := extract_mid s h
  have X1 := Lib.hid hx1
  have X2 := Lib.hid hx2
  have H := Lib.hid h
  have H1 := Lib.hid h1
  clear h h1 hx1 hx2
  have g1 : (leN (cut s 4 1) == 0) = false := by simpa using h2
  clear h2
  go_enter Tryz.func89, Tryz.ntmps89
  go_wp2_with fail
  refine (get_any s 0 4 _ (by omega) (by omega) (by omega)).mono ?_
  rintro e w1 ⟨rfl, rfl⟩
  rw [H1.out]
  go_wp2_with fail
  rw [H.out]
  refine (crcSum_any (s.extract 4 512) _ _ (cell_new _ _ _) hz).mono ?_
  rintro e w5 ⟨rfl, rfl⟩
  go_wp2_with fail
  refine (get_any s 4 1 _ (by omega) (by omega) (by omega)).mono ?_
  rintro e w1 ⟨rfl, rfl⟩
  go_wp2_with fail
  refine (get_any s 5 4 _ (by omega) (by omega) (by omega)).mono ?_
  rintro e w1 ⟨rfl, rfl⟩
  go_wp2_with fail
  go_ret3
  exact ⟨rfl, (Below.refl _ _).alloc (Nat.le_refl _) _⟩

set_option maxRecDepth 100000 in
set_option maxHeartbeats 1000000 in
theorem read_mid (s : ByteArray) (w : World) (h : s.size = 512) (h1 : leN (cut s 0 4) = crcV (s.extract 4 512)) (h2 : leN (cut s 4 1) ≠ 0) (h3 : leN (cut s 5 4) ≤ 2147483647) (h4 : cut s 9 7 ≠ nul 7) :
    Calls Tryz.prog 89 #[.string s] w fun e w' => e = .returned (.tuple #[.int .i64 0, .int .i64 0, .int .i64 2]) ∧ Below w.heap.size w w' := by
  have d1 : ((s.size : Int) != 512) = false := by rw [h]; rfl
  have d2 : (crcV (s.extract 4 512) != crcV (s.extract 4 512)) = false := by simp
  have hb := crcV_bd (s.extract 4 512)
  have hle : 512 ≤ s.size := by omega
  have hle' : s.size ≤ 512 := by omega
  have hz : (s.extract 4 512).size ≤ 9223372036854775807 := by rw [ByteArray.size_extract]; omega
  have hz9 : (s.extract 9 16).size ≤ 9223372036854775807 := by rw [ByteArray.size_extract]; omega
  have u1 := u64_int (crcV (s.extract 4 512)) hb.1 (by omega)
  have b1 := cut_bd1 s 4
  have b4 := cut_bd4 s 5
  obtain ⟨hx1, hx2⟩ := extract_mid s h
  have X1 := Lib.hid hx1
  have X2 := Lib.hid hx2
  have H := Lib.hid h
  have H1 := Lib.hid h1
  clear h h1 hx1 hx2
  have g1 : (leN (cut s 4 1) == 0) = false := by simpa using h2
  have H4 := Lib.hid h4
  clear h2 h4
  go_enter Tryz.func89, Tryz.ntmps89
  go_wp2_with fail
  refine (get_any s 0 4 _ (by omega) (by omega) (by omega)).mono ?_
  rintro e w1 ⟨rfl, rfl⟩
  rw [H1.out]
  go_wp2_with fail
  rw [H.out]
  refine (crcSum_any (s.extract 4 512) _ _ (cell_new _ _ _) hz).mono ?_
  rintro e w5 ⟨rfl, rfl⟩
  go_wp2_with fail
  refine (get_any s 4 1 _ (by omega) (by omega) (by omega)).mono ?_
  rintro e w1 ⟨rfl, rfl⟩
  go_wp2_with fail
  refine (get_any s 5 4 _ (by omega) (by omega) (by omega)).mono ?_
  rintro e w1 ⟨rfl, rfl⟩
  go_wp2_with fail
  refine (trim_no (s.extract 9 16) _ (by rw [X2.out, X1.out]; exact H4.out) hz9).mono ?_
  rintro e w1 ⟨r, rfl, hr, hb1⟩
  have hr' : (!r.toList.isEmpty) = true := by rw [hr]; rfl
  go_wp2_with fail
  go_ret3
  exact ⟨rfl, below_step hb1 ((Below.refl _ _).alloc (Nat.le_refl _) _)⟩

set_option maxRecDepth 100000 in
set_option maxHeartbeats 1000000 in
theorem read_ok (s : ByteArray) (w : World) (h : s.size = 512) (h1 : leN (cut s 0 4) = crcV (s.extract 4 512)) (h2 : leN (cut s 4 1) ≠ 0) (h3 : leN (cut s 5 4) ≤ 2147483647) (h4 : cut s 9 7 = nul 7) :
    Calls Tryz.prog 89 #[.string s] w fun e w' => e = .returned (.tuple #[.int .i64 (leN (cut s 4 1)), .int .i64 (leN (cut s 5 4)), .int .i64 0]) ∧ Below w.heap.size w w' := by
  have d1 : ((s.size : Int) != 512) = false := by rw [h]; rfl
  have d2 : (crcV (s.extract 4 512) != crcV (s.extract 4 512)) = false := by simp
  have hb := crcV_bd (s.extract 4 512)
  have hle : 512 ≤ s.size := by omega
  have hle' : s.size ≤ 512 := by omega
  have hz : (s.extract 4 512).size ≤ 9223372036854775807 := by rw [ByteArray.size_extract]; omega
  have hz9 : (s.extract 9 16).size ≤ 9223372036854775807 := by rw [ByteArray.size_extract]; omega
  have u1 := u64_int (crcV (s.extract 4 512)) hb.1 (by omega)
  have b1 := cut_bd1 s 4
  have b4 := cut_bd4 s 5
  obtain ⟨hx1, hx2⟩ := extract_mid s h
  have X1 := Lib.hid hx1
  have X2 := Lib.hid hx2
  have H := Lib.hid h
  have H1 := Lib.hid h1
  clear h h1 hx1 hx2
  have g1 : (leN (cut s 4 1) == 0) = false := by simpa using h2
  have H4 := Lib.hid h4
  clear h2 h4
  go_enter Tryz.func89, Tryz.ntmps89
  go_wp2_with fail
  refine (get_any s 0 4 _ (by omega) (by omega) (by omega)).mono ?_
  rintro e w1 ⟨rfl, rfl⟩
  rw [H1.out]
  go_wp2_with fail
  rw [H.out]
  refine (crcSum_any (s.extract 4 512) _ _ (cell_new _ _ _) hz).mono ?_
  rintro e w5 ⟨rfl, rfl⟩
  go_wp2_with fail
  refine (get_any s 4 1 _ (by omega) (by omega) (by omega)).mono ?_
  rintro e w1 ⟨rfl, rfl⟩
  go_wp2_with fail
  refine (get_any s 5 4 _ (by omega) (by omega) (by omega)).mono ?_
  rintro e w1 ⟨rfl, rfl⟩
  go_wp2_with fail
  refine (trim_yes (s.extract 9 16) _ (by rw [X2.out, X1.out]; exact H4.out) hz9).mono ?_
  rintro e w1 ⟨rfl, hb1⟩
  go_wp2_with fail
  go_ret3
  exact ⟨rfl, below_step hb1 ((Below.refl _ _).alloc (Nat.le_refl _) _)⟩

/-- page.read at any bytes. -/
theorem pgread_any (s : ByteArray) (w : World) :
    Calls Tryz.prog 89 #[.string s] w fun e w' => e = .returned (.tuple #[.int .i64 (pgK s), .int .i64 (pgN s), .int .i64 (pgE s)]) ∧ Below w.heap.size w w' := by
  unfold pgK pgN
  by_cases h : s.size = 512
  · by_cases h1 : leN (cut s 0 4) = crcV (s.extract 4 512)
    · by_cases h2 : leN (cut s 4 1) = 0
      · rw [pgE_bad h h1 (.inl h2)]; exact read_kind s w h h1 h2
      · by_cases h3 : leN (cut s 5 4) ≤ 2147483647
        · by_cases h4 : cut s 9 7 = nul 7
          · rw [pgE_ok h h1 h2 h3 h4]; exact read_ok s w h h1 h2 h3 h4
          · rw [pgE_bad h h1 (.inr (.inr h4))]; exact read_mid s w h h1 h2 h3 h4
        · rw [pgE_bad h h1 (.inr (.inl (by omega)))]; exact read_no s w h h1 h2 (by omega)
    · rw [pgE_sum h h1]; exact read_sum s w h h1
  · rw [pgE_size h]; exact read_size s w (by simp; omega)

set_option maxHeartbeats 1000000 in
theorem number_any (s : ByteArray) (w : World) :
    Calls Tryz.prog 58 #[.string s] w fun e w' => e = .returned (.tuple #[.int .i64 (pgN s), .int .i64 (pgE s)]) ∧ Below w.heap.size w w' := by
  go_enter Tryz.func58, Tryz.ntmps58
  go_wp2_with fail
  refine (pgread_any s _).mono ?_
  rintro e w1 ⟨rfl, hb1⟩
  go_wp2_with fail
  go_ret2
  exact ⟨rfl, hb1⟩

/-- What page.Unpack answers. -/
def unE (s : ByteArray) (no : Int) : Int := if pgE s = 0 then (if pgN s = no then 0 else 13) else pgE s
def unK (s : ByteArray) (no : Int) : Int := if unE s no = 0 then pgK s else 0
def unR (s : ByteArray) (no : Int) : ByteArray := if unE s no = 0 then s.extract 16 512 else ⟨#[]⟩

set_option maxRecDepth 100000 in
set_option maxHeartbeats 1000000 in
theorem unpack_any (s : ByteArray) (no : Int) (w : World) :
    Calls Tryz.prog 93 #[.string s, .int .i64 no] w fun e w' => e = .returned (.tuple #[.int .i64 (unK s no), .string (unR s no), .int .i64 (unE s no)]) ∧ Below w.heap.size w w' := by
  unfold unK unR
  by_cases h : pgE s = 0
  · have hz := (pgE_inv h).1
    by_cases hn : pgN s = no
    · have e0 : unE s no = 0 := by unfold unE; rw [if_pos h, if_pos hn]
      rw [e0, if_pos rfl, if_pos rfl]
      have d1 : (pgE s != 0) = false := by rw [h]; rfl
      have d2 : (pgN s != no) = false := by rw [hn]; simp
      have hle : 512 ≤ s.size := by omega
      have hle' : s.size ≤ 512 := by omega
      have HZ := Lib.hid hz
      clear h hn e0 hz
      go_enter Tryz.func93, Tryz.ntmps93
      go_wp2_with fail
      refine (pgread_any s _).mono ?_
      rintro e w1 ⟨rfl, hb1⟩
      go_wp2_with fail
      go_quiet (fail)
      go_wp2_with fail
      go_ret3
      exact ⟨by simp [HZ.out], below_drewN hb1 _⟩
    · have e0 : unE s no = 13 := by unfold unE; rw [if_pos h, if_neg hn]
      rw [e0, if_neg (by decide), if_neg (by decide)]
      have d1 : (pgE s != 0) = false := by rw [h]; rfl
      have d2 := u64_ne hn
      clear h hn e0 hz
      go_enter Tryz.func93, Tryz.ntmps93
      go_wp2_with fail
      refine (pgread_any s _).mono ?_
      rintro e w1 ⟨rfl, hb1⟩
      go_wp2_with fail
      go_ret3
      exact ⟨rfl, hb1⟩
  · have e0 : unE s no = pgE s := by unfold unE; rw [if_neg h]
    rw [e0, if_neg h, if_neg h]
    have d1 := u64_ne h
    clear h e0
    go_enter Tryz.func93, Tryz.ntmps93
    go_wp2_with fail
    refine (pgread_any s _).mono ?_
    rintro e w1 ⟨rfl, hb1⟩
    go_wp2_with fail
    go_ret3
    exact ⟨rfl, hb1⟩

end Go.Proofs.YtpaholkmlfaflaaGreatDoor

namespace Go.Proofs.YtpaholkmlfaflaaGreatDoor
open Go.RowKit
set_option linter.unusedVariables false

set_option maxRecDepth 100000 in
set_option maxHeartbeats 400000 in
theorem markPut_large (n : Int) (s : ByteArray) (w : World) (h : 48 < s.size) :
    Calls Tryz.prog 51 #[.int .u64 n, .string s] w fun e w' => e = .returned (.tuple #[.string ⟨#[]⟩, .int .i64 3]) ∧ w = w' := by
  go_enter Tryz.func51, Tryz.ntmps51
  go_wp2_with fail
  go_ret2
  exact ⟨rfl, rfl⟩

set_option maxRecDepth 100000 in
set_option maxHeartbeats 400000 in
theorem markPut_any (n : Int) (s : ByteArray) (w : World) (hn : 0 ≤ n) (h : s.size ≤ 48) :
    Calls Tryz.prog 51 #[.int .u64 n, .string s] w fun e w' => e = .returned (.tuple #[.string (mkStr n s), .int .i64 0]) ∧ Below w.heap.size w w' := by
  have z1 : (S (leB n 8)).size ≤ 8 := by rw [S_size, leB_length]; omega
  have z2 : (S (nul (48 - s.size))).size ≤ 48 := by rw [S_size, nul_length]; omega
  go_enter Tryz.func51, Tryz.ntmps51
  go_wp2_with fail
  refine (put_any n 8 _ (by omega) hn).mono ?_
  rintro e w1 ⟨rfl, hb1⟩
  go_wp2_with fail
  refine (repeat_nul _ _ (by omega) (by omega)).mono ?_
  rintro e w2 ⟨rfl, hb2⟩
  go_wp2_with fail
  go_ret2
  refine ⟨?_, hb1.trans (hb2.mono hb1.size)⟩
  rw [S_append_s, S_append, S_append]
  rfl

set_option maxRecDepth 100000 in
set_option maxHeartbeats 400000 in
/-- mark.Get. -/
theorem markGet_any (s : ByteArray) (w : World) (hs : s.size ≤ 9223372036854775807) :
    Calls Tryz.prog 87 #[.string s] w fun e w' => e = .returned (.tuple #[.int .u64 (mN s), .string (mT s), .bool (mOk s)]) ∧ Drawn w w' := by
  by_cases hz : s.size = 64
  · by_cases he : leN (cut s 0 8) = leN (cut s 56 8)
    · have fin : mN s = leN (cut s 0 8) ∧ mT s = s.extract 8 56 ∧ mOk s = true := by simp [mN, mT, mOk_yes s hz he]
      have H := Lib.hid fin; clear fin
      have Z := Lib.hid hz
      have z1 : s.size ≤ 64 := by omega
      have z2 : 64 ≤ s.size := by omega
      have e1 : (leN (cut s 0 8) != leN (cut s 56 8)) = false := by simp [he]
      clear hz he
      go_enter Tryz.func87, Tryz.ntmps87
      go_wp2_with fail
      refine (get_any s 0 8 _ (by omega) (by omega) hs).mono ?_
      rintro e w1 ⟨rfl, rfl⟩
      go_wp2_with fail
      refine (get_any s 56 8 _ (by omega) (by omega) hs).mono ?_
      rintro e w1 ⟨rfl, rfl⟩
      go_wp2_with fail
      go_quiet (fail)
      go_wp2_with fail
      go_ret3
      rw [H.out.1, H.out.2.1, H.out.2.2]
      exact ⟨rfl, _, rfl⟩
    · have fin : mN s = 0 ∧ mT s = ⟨#[]⟩ ∧ mOk s = false := by simp [mN, mT, mOk_no s he]
      have H := Lib.hid fin; clear fin
      have z1 : s.size ≤ 64 := by omega
      have z2 : 64 ≤ s.size := by omega
      have e1 : (leN (cut s 0 8) != leN (cut s 56 8)) = true := by simp [he]
      clear hz he
      go_enter Tryz.func87, Tryz.ntmps87
      go_wp2_with fail
      refine (get_any s 0 8 _ (by omega) (by omega) hs).mono ?_
      rintro e w1 ⟨rfl, rfl⟩
      go_wp2_with fail
      refine (get_any s 56 8 _ (by omega) (by omega) hs).mono ?_
      rintro e w1 ⟨rfl, rfl⟩
      go_wp2_with fail
      go_ret3
      rw [H.out.1, H.out.2.1, H.out.2.2]
      exact ⟨rfl, Drawn.refl _⟩
  · have fin : mN s = 0 ∧ mT s = ⟨#[]⟩ ∧ mOk s = false := by simp [mN, mT, mOk_size s hz]
    have H := Lib.hid fin; clear fin
    have z1 : ((s.size : Int) != 64) = true := by simp; omega
    go_enter Tryz.func87, Tryz.ntmps87
    go_wp2_with fail
    go_ret3
    rw [H.out.1, H.out.2.1, H.out.2.2]
    exact ⟨rfl, Drawn.refl _⟩

end Go.Proofs.YtpaholkmlfaflaaGreatDoor

namespace Go.Proofs.YtpaholkmlfaflaaGreatDoor
open Go.RowKit
open Go.ChangeMaps (setBlock heap_setBlock_same heap_setBlock_other)
set_option linter.unusedVariables false

/-- Of the blocks that were there, those of F alone may have turned. -/
def Touch (F : List Nat) (w w' : World) : Prop :=
  w'.os = w.os ∧ w'.tape = w.tape ∧ w'.output = w.output ∧ w.heap.size ≤ w'.heap.size ∧ ∀ b, b < w.heap.size → b ∉ F → w'.heap[b]? = w.heap[b]?
theorem Touch.refl (F : List Nat) (w : World) : Touch F w w := ⟨rfl, rfl, rfl, Nat.le_refl _, fun _ _ _ => rfl⟩
theorem Touch.size {F : List Nat} {w w' : World} (h : Touch F w w') : w.heap.size ≤ w'.heap.size := h.2.2.2.1
theorem Touch.block {F : List Nat} {w w' : World} (h : Touch F w w') {b : Nat} (hb : b < w.heap.size) (hF : b ∉ F) : w'.heap[b]? = w.heap[b]? := h.2.2.2.2 b hb hF
theorem Touch.trans {F G : List Nat} {w w1 w2 : World} (h : Touch F w w1) (k : Touch G w1 w2) (hG : ∀ b ∈ G, b ∈ F ∨ w.heap.size ≤ b) : Touch F w w2 :=
  ⟨k.1.trans h.1, k.2.1.trans h.2.1, k.2.2.1.trans h.2.2.1, Nat.le_trans h.size k.size, fun b hb hF =>
    (k.block (Nat.lt_of_lt_of_le hb h.size) (fun hm => (hG b hm).elim hF (fun h' => absurd hb (by omega)))).trans (h.block hb hF)⟩
theorem Touch.mono {F G : List Nat} {w w' : World} (h : Touch F w w') (hG : ∀ b ∈ F, b ∈ G ∨ w.heap.size ≤ b) : Touch G w w' :=
  ⟨h.1, h.2.1, h.2.2.1, h.size, fun b hb hF => h.block hb (fun hm => (hG b hm).elim hF (fun h' => absurd hb (by omega)))⟩
theorem Touch.drewN {F : List Nat} {w w' : World} (h : Touch F w w') (q : Nat) : Touch F w (w'.drewN q) := h
theorem Touch.drew {F : List Nat} {w w' : World} (h : Touch F w w') : Touch F w w'.drew := h
theorem Touch.alloc {F : List Nat} {w w' : World} (h : Touch F w w') (o : Obj) : Touch F w (w'.alloc o) :=
  ⟨h.1, h.2.1, h.2.2.1, Nat.le_trans h.size (by simp), fun b hb hF => (Below.heap_alloc w' o b (Nat.lt_of_lt_of_le hb h.size)).trans (h.block hb hF)⟩
theorem Touch.setCell {F : List Nat} {w w' : World} (h : Touch F w w') {p : Addr} (hp : p.block ∈ F ∨ w.heap.size ≤ p.block) (u : Value) : Touch F w (w'.setCell p u) :=
  ⟨h.1, h.2.1, h.2.2.1, by simpa [World.setCell] using h.size, fun b hb hF => (Below.heap_setCell w' p u b (by
    rintro rfl
    rcases hp with hp | hp
    · exact hF hp
    · omega)).trans (h.block hb hF)⟩
theorem Touch.of_grown {w w' : World} {row : Option Nat} (h : w.grownBy w' row) : Touch row.toList w w' :=
  ⟨h.os, h.tape, h.output, h.size, fun b hb hF => h.block b hb (fun e => hF (by rw [← e]; simp))⟩
theorem Touch.of_below {F : List Nat} {w w' : World} (h : Below w.heap.size w w') : Touch F w w' := ⟨h.os, h.tape, h.output, h.size, fun b hb _ => h.block b hb⟩
theorem Touch.below {F : List Nat} {w w' : World} {B : Nat} (h : Touch F w w') (hB : B ≤ w.heap.size) (hF : ∀ b ∈ F, B ≤ b) : Below B w w' :=
  ⟨h.1, h.2.1, h.2.2.1, h.size, fun b hb => h.block (Nat.lt_of_lt_of_le hb hB) (fun hm => by have := hF b hm; omega)⟩
theorem Touch.cell {F : List Nat} {w w' : World} (h : Touch F w w') {p : Addr} (hp : p.block < w.heap.size) (hF : p.block ∉ F) : w'.cell? p = w.cell? p := World.cell?_of_block (h.block hp hF)
theorem Touch.frozen {F : List Nat} {w w' : World} (h : Touch F w w') {p : Addr} (hp : p.block < w.heap.size) (hF : p.block ∉ F) : w'.frozen? p = w.frozen? p := World.frozen?_of_block (h.block hp hF)
/-- What lies elsewhere stays. -/
theorem rowIs_touch {F : List Nat} {w w' : World} {b n : Nat} {t : TypeId} {f : Nat → Value} (h : w.rowIs b t n f) (k : Touch F w w') (hF : b ∉ F) : w'.rowIs b t n f := World.rowIs.of_block h (k.block (World.rowIs.lt h) hF)
theorem grown_of_touch {F : List Nat} {w w' : World} (k : Touch F w w') {g : Nat} (hF : g ∉ F) (hg : g < w.heap.size) : w'.heap[g]? = w.heap[g]? := k.block hg hF
theorem ownsRow_touch {F : List Nat} {w w' : World} {base n size : Nat} {e : TypeId} {v : Value} {xs : List Value} (h : w.ownsRow base e size v n xs) (k : Touch F w w') (hF : ∀ g, v.ownBlock = some g → g ∉ F) : w'.ownsRow base e size v n xs := by
  refine ⟨h.1, ?_⟩
  rcases h.2 with h0 | ⟨g, cap, cur, hv, hb, hg, hnc, hcm, hcs, htake⟩
  · exact .inl h0
  · refine .inr ⟨g, cap, cur, hv, hb, ?_, hnc, hcm, hcs, htake⟩
    have hlt : g < w.heap.size := (Array.getElem?_eq_some_iff.1 hg).1
    rw [k.block hlt (hF g (by rw [hv]; rfl)), hg]
theorem ownsMap_touch {H : Type} {P : Program} {F : List Nat} {w w' : World} {k : TypeId} {R : Value → Option (DataW H × List MemPlace)} {b n : Nat} {D : DataW H} (h : w.ownsMap P k R b n D) (t : Touch F w w') (hF : b ∉ F) : w'.ownsMap P k R b n D := by
  have hlt := h.lt
  obtain ⟨es, clock, hb, r⟩ := h
  exact ⟨es, clock, by rw [t.block hlt hF, hb], r⟩

/-- 'clear(m)'. -/
theorem clear_run {H : Type} {P : Program} {w : World} {k e t : TypeId} {R : Value → Option (DataW H × List MemPlace)} {b n : Nat} {D : DataW H} (h : w.ownsMap P k R b n D) (ht : P.underlying t = some (.map k e)) :
    ∃ w', (∀ ty, (Builtin.clear_ #[t] ty #[.map (some b)]).run P w = .ok (.tuple #[]) w') ∧ w'.ownsMap P k R b 0 (.map []) ∧ w.grownBy w' (some b) := by
  obtain ⟨es, clock, hb, F, hs, rfl⟩ := h
  refine ⟨setBlock w b (.map #[] clock), fun ty => ?_, ?_, ?_⟩
  · simp [Builtin.clear_, run_underlying ht, MapKept.run_getObj_map hb, MapKept.run_setObj_map _ hb, Result.andThen, setBlock]
  · exact ⟨#[], clock, heap_setBlock_same hb _, ⟨by simp, MapKept.stamped_empty clock, by simp⟩, by simp, rfl⟩
  · exact ⟨rfl, rfl, rfl, by simp [setBlock], fun i _ hi => heap_setBlock_other hb _ (fun e => hi (by rw [e]))⟩

/-- 'append' onto a row of the call's own: the row stays where it was, or is new. -/
theorem wpList_append_near {P : Program} (w : World) {ops : Array Oper} {rest : List Oper} {o : Oper} {a : Act} {Q : Exit → Act → World → Prop}
    (hg : o.guard = none) (s x : Operand) (t : TypeId) (hop : o.op = Op.call { callee := Callee.builtin Builtin.append, args := #[s, x], argTypes := #[t, t] })
    (base : Nat) (e : TypeId) (i : TypeInfo) (z : Value) (size bytes : Nat) (h1 : P.underlying t = some (.slice e)) (h2 : P.info? e = some i) (h3 : i.zero = some z) (h4 : i.size = size) (h5 : i.bytes = bytes) (h6 : z.cells.size = size) (h7 : 0 < size)
    (v : Value) (n : Nat) (xs : List Value) (hs : a.eval s = v) (hown : w.ownsRow base e size v n xs)
    (ad : Addr) (m c : Nat) (news : List Value) (hx : a.eval x = .slice (some ad) m c) (hm : 0 < m) (hn : news.length = m * size) (hc : ∀ j u, news[j]? = some u → w.cell? (ad.add j) = some u) (h1c : ∀ u ∈ news, u.oneCell' = true)
    (b1 : n + m ≤ maxLen) (b2 : (n + m) * bytes ≤ 140737488355328) (hbase : base ≤ w.heap.size)
    (hK : ∀ g cap w', w'.ownsRow base e size (.slice (some ⟨g, 0, none⟩) (n + m) cap) (n + m) (xs ++ news) → w.grownBy w' v.ownBlock → (v.ownBlock = some g ∨ w.heap.size ≤ g) → wpList P ops Q rest (a.put o.dst (.slice (some ⟨g, 0, none⟩) (n + m) cap)) w') :
    wpList P ops Q (o :: rest) a w := by
  have wide : ∀ {w' : World} {row : Option Nat}, w.grownBy w' none → w.grownBy w' row := fun h => ⟨h.os, h.tape, h.output, h.size, fun b hb _ => h.block b hb (by simp)⟩
  rcases Go.Joins.ownsRow_forms hown with ⟨rfl, rfl⟩ | ⟨g, cap, rfl⟩
  · have hx0 : xs = [] := List.eq_nil_of_length_eq_zero (by simpa using hown.1)
    subst hx0
    refine wpList_append_grows w hg s x t hop e i z size bytes h1 h2 h3 h4 h5 h6 h7 none 0 0 [] hs (fun _ => ⟨rfl, rfl⟩) (by simp) (fun b h => by cases h) ad m c news hx hn hc h1c (by omega) b1 b2 ?_
    intro v' w' ho hgr
    obtain ⟨g', cap', rfl⟩ := Go.Joins.ownsRow_form ho (by omega)
    exact hK g' cap' w' (Go.Joins.ownsRow_le ho hbase) hgr (.inr (ho.lt g' rfl).1)
  · by_cases hcap : n + m ≤ cap
    · refine wpList_append_fits w hg s x t hop base e i size h1 h2 h4 g n cap xs hs hown ad m c news hx hn hc h1c hcap ?_
      intro w' ho hgr
      exact hK g cap w' ho hgr (.inl rfl)
    · refine wpList_append_grows w hg s x t hop e i z size bytes h1 h2 h3 h4 h5 h6 h7 (some ⟨g, 0, none⟩) n cap xs hs (fun h => by cases h) hown.1 (fun b hb => by cases hb; exact hown.cells rfl) ad m c news hx hn hc h1c (by omega) b1 b2 ?_
      intro v' w' ho hgr
      obtain ⟨g', cap', rfl⟩ := Go.Joins.ownsRow_form ho (by omega)
      exact hK g' cap' w' (Go.Joins.ownsRow_le ho hbase) (wide hgr) (.inr (ho.lt g' rfl).1)

end Go.Proofs.YtpaholkmlfaflaaGreatDoor

namespace Go.Proofs.YtpaholkmlfaflaaGreatDoor
open Go.RowKit Go.Maps Go.Joins
set_option linter.unusedVariables false

/-- A disk as plain data. -/
structure DM where
  sure : List ByteArray
  wait : List (Int × ByteArray)
  fuse : Int
  down : Bool

/-- The last text that was written to a place. -/
def lastW (l : List (Int × ByteArray)) (k : Int) : Option ByteArray := l.foldl (fun acc x => if x.1 = k then some x.2 else acc) none
theorem lastW_nil (k : Int) : lastW [] k = none := rfl
theorem lastW_snoc (l : List (Int × ByteArray)) (i : Int) (s : ByteArray) (k : Int) : lastW (l ++ [(i, s)]) k = if i = k then some s else lastW l k := by
  simp [lastW, List.foldl_append]
def waitCells (l : List (Int × ByteArray)) : List Value := l.flatMap fun x => [.int .i64 x.1, .string x.2]
theorem waitCells_snoc (l : List (Int × ByteArray)) (i : Int) (s : ByteArray) : waitCells l ++ [.int .i64 i, .string s] = waitCells (l ++ [(i, s)]) := by
  simp [waitCells]
theorem waitCells_length (l : List (Int × ByteArray)) : (waitCells l).length = l.length * 2 := by
  induction l with
  | nil => rfl
  | cons x l ih => simp only [waitCells, List.flatMap_cons, List.length_append, List.length_cons, List.length_nil] at ih ⊢; omega
theorem waitCells_get : ∀ (l : List (Int × ByteArray)) (i : Nat) (x : Int × ByteArray), l[i]? = some x → (waitCells l)[i * 2]? = some (.int .i64 x.1) ∧ (waitCells l)[i * 2 + 1]? = some (.string x.2)
  | [], i, x, h => by simp at h
  | y :: l, 0, x, h => by
    simp at h; subst h
    simp [waitCells]
  | y :: l, i + 1, x, h => by
    have ih := waitCells_get l i x (by simpa using h)
    have e : waitCells (y :: l) = .int .i64 y.1 :: .string y.2 :: waitCells l := rfl
    rw [e, show (i + 1) * 2 = i * 2 + 1 + 1 by omega]
    exact ih

/-- The map holds just these. -/
def MapIs (D : DataW Unit) (f : Int → Option ByteArray) : Prop :=
  IsMap D ∧ ∀ k : Int, Maps.has D (.int .i64 k) = (f k).isSome ∧ ∀ z, D.atKey (.int .i64 k) z = match f k with
    | some s => .lit (.string s.data.toList)
    | none => z
theorem MapIs.empty : MapIs (.map []) (lastW []) := ⟨isMap_empty, fun k => ⟨rfl, fun z => rfl⟩⟩

/-- The cells of a disk. -/
def diskF (sv wv : Value) (M : Nat) (m : DM) : Nat → Value
  | 0 => sv
  | 1 => wv
  | 2 => .map (some M)
  | 3 => .int .i64 m.fuse
  | 4 => .bool m.down
  | _ => undef

theorem Tryz.infoStr : (Tryz.prog.info? 9).map (fun i => (i.zero, i.size, i.bytes)) = some (some (.string ⟨#[]⟩), 1, 16) := by kernel_rfl
theorem Tryz.keyInt : Keyed Tryz.prog 3 := int_keyed Tryz.underlying3

/-- A disk lies in the blocks F. -/
structure DiskAt (w : World) (d sb sc M : Nat) (wv : Value) (D : DataW Unit) (m : DM) : Prop where
  cells : w.rowIs d 90 5 (diskF (.slice (some ⟨sb, 0, none⟩) m.sure.length sc) wv M m)
  sure : w.ownsRow 0 9 1 (.slice (some ⟨sb, 0, none⟩) m.sure.length sc) m.sure.length (m.sure.map Value.string)
  wait : w.ownsRow 0 121 2 wv m.wait.length (waitCells m.wait)
  map : w.ownsMap Tryz.prog 3 (plainElem Tryz.prog 9) M m.wait.length D
  mapIs : MapIs D (lastW m.wait)
  ne1 : d ≠ sb
  ne2 : d ≠ M
  ne3 : sb ≠ M
  ne4 : ∀ g, wv.ownBlock = some g → g ≠ d ∧ g ≠ sb ∧ g ≠ M
/-- The blocks in which it lies. -/
def diskB (d sb M : Nat) (wv : Value) : List Nat := d :: sb :: M :: wv.ownBlock.toList
/-- A disk, wherever its parts lie: its blocks are F. -/
def IsDisk (w : World) (d : Nat) (F : List Nat) (m : DM) : Prop := ∃ sb sc M wv D, DiskAt w d sb sc M wv D m ∧ F = diskB d sb M wv

theorem DiskAt.touch {w w' : World} {d sb sc M : Nat} {wv : Value} {D : DataW Unit} {m : DM} {F : List Nat} (h : DiskAt w d sb sc M wv D m) (t : Touch F w w') (hF : ∀ b ∈ diskB d sb M wv, b ∉ F) : DiskAt w' d sb sc M wv D m :=
  ⟨rowIs_touch h.cells t (hF d (by simp [diskB])), ownsRow_touch h.sure t (fun g hg => by cases hg; exact hF sb (by simp [diskB])), ownsRow_touch h.wait t (fun g hg => hF g (by simp [diskB, hg])),
    ownsMap_touch h.map t (hF M (by simp [diskB])), h.mapIs, h.ne1, h.ne2, h.ne3, h.ne4⟩
theorem IsDisk.touch {w w' : World} {d : Nat} {m : DM} {F G : List Nat} (h : IsDisk w d G m) (t : Touch F w w') (hF : ∀ b ∈ G, b ∉ F) : IsDisk w' d G m := by
  obtain ⟨sb, sc, M, wv, D, h, rfl⟩ := h
  exact ⟨sb, sc, M, wv, D, h.touch t hF, rfl⟩
theorem DiskAt.lt {w : World} {d sb sc M : Nat} {wv : Value} {D : DataW Unit} {m : DM} (h : DiskAt w d sb sc M wv D m) : ∀ b ∈ diskB d sb M wv, b < w.heap.size := by
  intro b hb
  simp only [diskB, List.mem_cons, Option.mem_toList] at hb
  rcases hb with rfl | rfl | rfl | hb
  · exact World.rowIs.lt h.cells
  · exact (h.sure.lt b rfl).2
  · exact h.map.lt
  · exact (h.wait.lt b hb).2
theorem IsDisk.lt {w : World} {d : Nat} {m : DM} {F : List Nat} (h : IsDisk w d F m) : ∀ b ∈ F, b < w.heap.size := by
  obtain ⟨sb, sc, M, wv, D, h, rfl⟩ := h
  exact h.lt
theorem DiskAt.cell {w : World} {d sb sc M : Nat} {wv : Value} {D : DataW Unit} {m : DM} (h : DiskAt w d sb sc M wv D m) :
    w.cell? ⟨d, 0, none⟩ = some (.slice (some ⟨sb, 0, none⟩) m.sure.length sc) ∧ w.cell? ⟨d, 1, none⟩ = some wv ∧ w.cell? ⟨d, 2, none⟩ = some (.map (some M)) ∧ w.cell? ⟨d, 3, none⟩ = some (.int .i64 m.fuse) ∧ w.cell? ⟨d, 4, none⟩ = some (.bool m.down) :=
  ⟨World.rowIs.cell h.cells (i := 0) (by decide), World.rowIs.cell h.cells (i := 1) (by decide), World.rowIs.cell h.cells (i := 2) (by decide), World.rowIs.cell h.cells (i := 3) (by decide), World.rowIs.cell h.cells (i := 4) (by decide)⟩
theorem DiskAt.frozen {w : World} {d sb sc M : Nat} {wv : Value} {D : DataW Unit} {m : DM} (h : DiskAt w d sb sc M wv D m) (i : Nat) : w.frozen? ⟨d, i, none⟩ = false := World.rowIs.frozen h.cells i

/-- The fuse is set. -/
theorem DiskAt.setFuse {w : World} {d sb sc M : Nat} {wv : Value} {D : DataW Unit} {m : DM} (h : DiskAt w d sb sc M wv D m) (n : Int) : DiskAt (w.setCell ⟨d, 3, none⟩ (.int .i64 n)) d sb sc M wv D { m with fuse := n } := by
  have t : Touch [d] w (w.setCell ⟨d, 3, none⟩ (.int .i64 n)) := (Touch.refl _ _).setCell (.inl (by simp)) _
  exact ⟨World.rowIs.congr (World.rowIs.set h.cells 3 (.int .i64 n)) (fun i hi => by
      rcases i with _ | _ | _ | _ | _ | i <;> first | rfl | omega),
    ownsRow_touch h.sure t (fun g hg => by cases hg; simp; exact fun e => h.ne1 e.symm), ownsRow_touch h.wait t (fun g hg => by simp; exact (h.ne4 g hg).1), ownsMap_touch h.map t (by simp; exact fun e => h.ne2 e.symm), h.mapIs, h.ne1, h.ne2, h.ne3, h.ne4⟩
theorem DiskAt.setDown {w : World} {d sb sc M : Nat} {wv : Value} {D : DataW Unit} {m : DM} (h : DiskAt w d sb sc M wv D m) (b : Bool) : DiskAt (w.setCell ⟨d, 4, none⟩ (.bool b)) d sb sc M wv D { m with down := b } := by
  have t : Touch [d] w (w.setCell ⟨d, 4, none⟩ (.bool b)) := (Touch.refl _ _).setCell (.inl (by simp)) _
  exact ⟨World.rowIs.congr (World.rowIs.set h.cells 4 (.bool b)) (fun i hi => by
      rcases i with _ | _ | _ | _ | _ | i <;> first | rfl | omega),
    ownsRow_touch h.sure t (fun g hg => by cases hg; simp; exact fun e => h.ne1 e.symm), ownsRow_touch h.wait t (fun g hg => by simp; exact (h.ne4 g hg).1), ownsMap_touch h.map t (by simp; exact fun e => h.ne2 e.symm), h.mapIs, h.ne1, h.ne2, h.ne3, h.ne4⟩

end Go.Proofs.YtpaholkmlfaflaaGreatDoor

namespace Go.Proofs.YtpaholkmlfaflaaGreatDoor
open Go.RowKit Go.Joins
set_option linter.unusedVariables false

/-- A mark's text of so many pages. -/
def textM (n : Int) : ByteArray := S (leB n 2 ++ [1] ++ nul 45)
theorem textM_size (n : Int) : (textM n).size = 48 := by unfold textM; rw [S_size]; simp only [List.length_append, leB_length, nul_length]; rfl
theorem u64_of (x : Int) (h : 0 ≤ x) (hu : x ≤ 9223372036854775807) : IntKind.u64.wrap x = x := by
  rw [IntKind.wrap_u64]; omega

set_option maxRecDepth 100000 in
set_option maxHeartbeats 1000000 in
theorem text_any (n : Int) (w : World) (h0 : 0 ≤ n) (h1 : n ≤ 1000000) :
    Calls Tryz.prog 106 #[.int .i64 n] w fun e w' => e = .returned (.string (textM n)) ∧ Below w.heap.size w w' := by
  have u1 := u64_of n h0 (by omega)
  have z1 : (S (leB n 2)).size ≤ 2 := by rw [S_size, leB_length]; omega
  have z2 : (S (nul 45)).size ≤ 45 := by rw [S_size, nul_length]; omega
  have z3 : (S (leB n 2) ++ ⟨#[1]⟩).size ≤ 3 := by rw [ByteArray.size_append, S_size, leB_length]; decide
  have T : S (leB n 2) ++ ⟨#[1]⟩ ++ S (nul 45) = textM n := by
    have : (⟨#[1]⟩ : ByteArray) = S [1] := rfl
    rw [this, S_append, S_append]; rfl
  have TT := Lib.hid T
  clear T
  go_enter Tryz.func106, Tryz.ntmps106
  go_wp2_with fail
  refine (put_any n 2 _ (by omega) h0).mono ?_
  rintro e w1 ⟨rfl, hb1⟩
  go_wp2_with fail
  refine (repeat_nul _ _ (by omega) (by omega)).mono ?_
  rintro e w2 ⟨rfl, hb2⟩
  go_wp2_with fail
  go_ret
  exact ⟨by rw [← TT.out]; rfl, below_step hb2 hb1⟩

/-! A page cut into a log's sectors. -/
def padP (p : ByteArray) : ByteArray := p ++ S (nul (567 - p.size))
theorem padP_size (p : ByteArray) (h : p.size ≤ 567) : (padP p).size = 567 := by unfold padP; rw [ByteArray.size_append, S_size, nul_length]; omega
/-- A part with a nought in it. -/
def tellS (s : ByteArray) : ByteArray := s.extract 0 10 ++ ⟨#[0]⟩ ++ s.extract 10 63
def secP (p : ByteArray) (k : Nat) : ByteArray := tellS ((padP p).extract (k * 63) ((k + 1) * 63))
theorem tellS_size (s : ByteArray) (h : s.size = 63) : (tellS s).size = 64 := by
  unfold tellS; rw [ByteArray.size_append, ByteArray.size_append, ByteArray.size_extract, ByteArray.size_extract]
  have : (⟨#[0]⟩ : ByteArray).size = 1 := rfl
  omega
theorem part_size (p : ByteArray) (h : p.size ≤ 567) (k : Nat) (hk : k < 9) : ((padP p).extract (k * 63) ((k + 1) * 63)).size = 63 := by
  rw [ByteArray.size_extract, padP_size p h]; omega
theorem secP_size (p : ByteArray) (h : p.size ≤ 567) (k : Nat) (hk : k < 9) : (secP p k).size = 64 := tellS_size _ (part_size p h k hk)
def secCells (p : ByteArray) (j : Nat) : List Value := (List.range j).map fun k => .string (secP p k)
theorem secCells_snoc (p : ByteArray) (j : Nat) : secCells p j ++ [.string (secP p j)] = secCells p (j + 1) := by
  simp [secCells, List.range_succ]

set_option maxRecDepth 100000 in
set_option maxHeartbeats 2000000 in
theorem rcut_any (p : ByteArray) (w : World) (hp : p.size ≤ 567) :
    Calls Tryz.prog 103 #[.string p] w fun e w' => ∃ g cap, e = .returned (.slice (some ⟨g, 0, none⟩) 9 cap) ∧ w'.ownsRow w.heap.size 9 1 (.slice (some ⟨g, 0, none⟩) 9 cap) 9 (secCells p 9) ∧ Below w.heap.size w w' := by
  obtain ⟨i0, hi, hz0, hz1, hz2⟩ := info_parts Tryz.infoStr
  have z2 : (S (nul (567 - p.size))).size ≤ 567 := by rw [S_size, nul_length]; omega
  have zq := padP_size p hp
  have TT0 : p ++ S (nul (567 - p.size)) = padP p := rfl
  have TT := Lib.hid TT0
  clear TT0
  go_enter Tryz.func103, Tryz.ntmps103
  go_wp2_with fail
  refine (repeat_nul _ _ (by omega) (by omega)).mono ?_
  rintro e w1 ⟨rfl, hb1⟩
  have HB1 := Lib.hid hb1
  have e1 : ((567 : Int) - p.size).toNat = 567 - p.size := by omega
  rw [e1]
  clear e1 hb1
  have zq1 : (padP p).size ≤ 567 := by omega
  have zq2 : 567 ≤ (padP p).size := by omega
  have PS := fun k hk => Lib.hid (part_size p hp k hk)
  clear zq
  go_wp2_with fail
  rw [TT.out]
  go_loopw [3, 4, 5, 12] (fun v _ _ c wr => ∃ j : Nat, j ≤ 9 ∧ c = .int .i64 j ∧ wr.ownsRow w.heap.size 9 1 v j (secCells p j) ∧ Below w.heap.size w wr) (fun _ _ _ c _ => 9 - (intOf c).toNat)
  case atStart => exact ⟨0, Nat.zero_le _, rfl, World.ownsRow_nil _ _ _ _, HB1.out⟩
  case round =>
    clear HB1
    obtain ⟨j, hj, rfl, hown, hb⟩ := hrel
    by_cases hlt : j < 9
    · have HC := Lib.hid (secCells_snoc p j)
      have HB := Lib.hid hb
      have HO := Lib.hid hown
      have hsz := hb.size
      have hps := (PS j hlt).out
      generalize hq : (padP p).extract (j * 63) ((j + 1) * 63) = q at hps
      have HQ := Lib.hid hq
      have q1 : q.size ≤ 63 := by omega
      have q2 : 63 ≤ q.size := by omega
      clear hb hown hq hps
      go_upto_region 7 with (fail)
      rw [HQ.out]
      have q3 : (10 : Int) ≤ (q.size : Int) := by omega
      have q4 : (0 : Int) ≤ 10 := by decide
      have q5 : ¬ (9223372036854775807 < min 10 q.size + 1) := by omega
      have q6 : ¬ (9223372036854775807 < min 10 q.size + 1 + (q.size - 10)) := by omega
      have TQ : q.extract 0 10 ++ (⟨#[0]⟩ : ByteArray) ++ q.extract 10 q.size = secP p j := by
        rw [← HQ.out, part_size p hp j hlt]; rfl
      have HTQ := Lib.hid TQ
      have h63 : j + 1 ≤ maxLen := by unfold maxLen; omega
      have hrb : w.heap.size ≤ wr.heap.size + 1 := by omega
      clear TQ
      go_region_law ((refine step_append_lies _ (by rfl) _ _ _ (by rfl) w.heap.size 9 i0 _ 1 16 Tryz.underlying33 hi hz0 hz1 hz2 rfl (by omega) u3 j (secCells p j) (by rfl) ((HO.out.alloc _).drew) ⟨wr.heap.size, 0, none⟩ 1 1 [.string (secP p j)] (by rfl) (by rfl) (by rw [← HTQ.out]; exact cell_one_new _ _ _) (by simp [Value.oneCell']) (by omega) h63 (by omega) (by simp; omega) (wr.heap.size + 1) (by simp) ?_; intro gg cap w3 hown1 hgrow hat hlt'))
      all_goals
        rw [HC.out] at hown1
        have hb2 := (HB.out.alloc hsz (.cells #[.string (q.extract 0 10 ++ (⟨#[0]⟩ : ByteArray) ++ q.extract 10 q.size)] 9)).drew.grown hgrow (by simp; omega) (fun k hk => (HO.out.lt k hk).1)
        have HO2 := Lib.hid hown1
        have HB2 := Lib.hid hb2
        clear hown1 hgrow hat hlt' hb2
        go_wp2_with fail
        go_roundw
        case rel => exact ⟨j + 1, by omega, by go_num, HO2.out, HB2.out⟩
        case measure => simp [intOf]; omega
    · obtain rfl : j = 9 := by omega
      obtain ⟨g, cap, hv⟩ := ownsRow_form hown (by omega)
      rw [hv] at hown
      have HO := Lib.hid hown
      clear hown
      rw [hv]
      go_wp2
      go_ret
      exact ⟨g, cap, rfl, HO.out, hb⟩

/-! Sectors joined to a page. -/
def untell (s : ByteArray) : ByteArray := s.extract 0 10 ++ s.extract 11 64
def joinL (l : List ByteArray) : ByteArray := S (l.map fun s => (untell s).data.toList).flatten
/-- Do these sectors make a page? -/
def joinOk (l : List ByteArray) : Bool := l.all (fun s => s.data.toList.getD 10 0 == 0) && decide ((joinL l).extract 512 567 = S (nul 55))
def joinP (l : List ByteArray) : ByteArray := (joinL l).extract 0 512
theorem untell_size (s : ByteArray) (h : s.size = 64) : (untell s).size = 63 := by
  unfold untell; rw [ByteArray.size_append, ByteArray.size_extract, ByteArray.size_extract]; omega
theorem joinL_snoc (l : List ByteArray) (s : ByteArray) : joinL l ++ untell s = joinL (l ++ [s]) := by
  unfold joinL
  conv => lhs; rw [← S_data (untell s)]
  rw [S_append]; simp
/-- The strings of a slice. -/
def StrsAt (w : World) (a : Option Addr) (l : List ByteArray) : Prop := l = [] ∨ ∃ b off, a = some ⟨b, off, none⟩ ∧ ∀ (j : Nat) x, l[j]? = some x → w.cell? ⟨b, off + j, none⟩ = some (.string x)

end Go.Proofs.YtpaholkmlfaflaaGreatDoor

namespace Go.Proofs.YtpaholkmlfaflaaGreatDoor
open Go.RowKit
set_option linter.unusedVariables false

section
variable {P : Program} {md : Region.Mode} {ops : Array Oper} {C : World → Prop}

/-- Till f operations more have come up, all of them before place n; then L. -/
def wpHead (P : Program) (md : Region.Mode) (ops : Array Oper) (C : World → Prop) (n : Nat) (L : Array Bool → Act → Prop) : Nat → Array Bool → Act → Prop
  | 0, listed, a => L listed a
  | f + 1, listed, a => Region.ready md ops listed ≠ [] ∧ ∀ i ∈ Region.ready md ops listed, i < n ∧ qOp P ops C i (wpHead P md ops C n L f (listed.setIfInBounds i true)) a

theorem wpHead_any {n g : Nat} {L : Array Bool → Act → Prop} {Q' : Exit → Act → World → Prop} (hL : ∀ listed a w, C w → L listed a → wpAny P md ops Q' g listed a w) (f : Nat) :
    ∀ (listed : Array Bool) (a : Act) (w : World), C w → wpHead P md ops C n L f listed a → wpAny P md ops Q' (g + f) listed a w := by
  induction f with
  | zero => exact fun listed a w hw h => hL listed a w hw h
  | succ f ih => exact fun listed a w hw h => ⟨fun h0 => absurd h0 h.1, fun i hi => wpOp_of_qOp hw (fun a' w' hw' h' => ih _ a' w' hw' h') (h.2 i hi).2⟩

/-- What is asked of the tail: it comes up behind the head alone, and one by one. -/
structure TailOk (md : Region.Mode) (ops : Array Oper) (n : Nat) : Prop where
  sel : ∀ (j : Nat) (o : Oper) cs b, ops[j]? = some o → o.op ≠ .select cs b
  sink : Region.sinkB md ops n = true
  chain : Region.chainB md ops n = true
  lt : n < ops.size
theorem TailOk.head {n i : Nat} {listed : Array Bool} (T : TailOk md ops n) (inv : HeadInv md ops n listed) (hi : i < n) (hr : i ∈ Region.ready md ops listed) {j : Nat} (hj : j ∈ Region.ready md ops listed) : j < n :=
  Nat.lt_of_not_le fun h => tail_waits T.sink T.chain T.lt inv _ i rfl hi (mem_ready.1 hr).1 j h hj

/-- Operation i is apart from all that may come up ahead of it. -/
def Apart (md : Region.Mode) (ops : Array Oper) (i : Nat) (oi : Oper) (listed : Array Bool) : Prop :=
  ∀ j oj, ops[j]? = some oj → j ≠ i → listed.getD j true = false → (∀ e ∈ oj.after, Region.binds md e = true → e.on ≠ i) → oi.apart ops oj = true
theorem Apart.set {i j : Nat} {oi : Oper} {listed : Array Bool} (h : Apart md ops i oi listed) (hj : listed.getD j true = false) : Apart md ops i oi (listed.setIfInBounds j true) := by
  intro k ok hk hki hun hno
  refine h k ok hk hki ?_ hno
  by_cases e : k = j
  · rw [e]; exact hj
  · rwa [getD_set_ne true (Ne.symm e)] at hun

theorem wpHead_first {n i : Nat} {oi : Oper} {v : Value} {L : Array Bool → Act → Prop} (T : TailOk md ops n) (hi : ops[i]? = some oi) (hin : i < n)
    (hL : ∀ listed a, L listed a → ∀ j ∈ Region.ready md ops listed, n ≤ j) (f : Nat) :
    ∀ (listed : Array Bool) (a : Act), HeadInv md ops n listed → Apart md ops i oi listed → i ∈ Region.ready md ops listed → YieldsIn P ops C oi v a →
      wpHead P md ops C n L f (listed.setIfInBounds i true) (a.put oi.dst v) → wpHead P md ops C n L (f + 1) listed a := by
  induction f with
  | zero =>
    intro listed a inv hap hr hy H
    refine ⟨List.ne_nil_of_mem hr, fun j hj => ?_⟩
    have hjn := T.head inv hin hr hj
    refine ⟨hjn, ?_⟩
    rcases Decidable.em (j = i) with rfl | hne
    · exact hy.qOp hi H
    · exact absurd (hL _ _ H j (ready_mono hj hne)) (by omega)
  | succ f ih =>
    intro listed a inv hap hr hy H
    refine ⟨List.ne_nil_of_mem hr, fun j hj => ?_⟩
    have hjn := T.head inv hin hr hj
    refine ⟨hjn, ?_⟩
    rcases Decidable.em (j = i) with rfl | hne
    · exact hy.qOp hi H
    · obtain ⟨hjun, oj, hoj, hall⟩ := mem_ready.1 hj
      have hw : ∀ e ∈ oj.after, Region.binds md e = true → e.on ≠ i := by
        intro e he hb h
        have := hall e he hb
        rw [h, getD_both (mem_ready.1 hr).1] at this
        cases this
      have step := qOp_put hoj (hap j oj hoj hne hjun hw) (fun cs b => T.sel i oi cs b hi) (fun cs b => T.sel j oj cs b hoj) hy (H.2 j (ready_mono hj hne)).2
      refine qOp_mono (fun a' ha' => ih _ a' (inv.set hj hjn) (hap.set hjun) (ready_mono hr (Ne.symm hne)) ha'.1 ?_) step
      rw [Array.setIfInBounds_comm _ _ hne]
      exact ha'.2

theorem wpHead_lex {n g : Nat} {Lq : Act → Prop} (T : TailOk md ops n) (l : List Oper) :
    ∀ (k : Nat) (listed : Array Bool) (a : Act), (∀ j, j < l.length → l[j]? = ops[k + j]?) → k + l.length = n → HeadInv md ops n listed →
      Region.lexHead md ops g l.length k listed = true → wpQuiet P ops C Lq l a → wpHead P md ops C n (fun listed' a' => Region.seqB md ops g n listed' = true ∧ Lq a') l.length listed a := by
  induction l with
  | nil =>
    intro k listed a _ hk _ hB h
    obtain rfl : k = n := by simpa using hk
    exact ⟨by simpa [Region.lexHead] using hB, h⟩
  | cons o l ih =>
    intro k listed a hl hk inv hB h
    have h0 : ops[k]? = some o := by simpa using (hl 0 (by simp)).symm
    rw [List.length_cons] at hk
    simp only [List.length_cons, Region.lexHead, Bool.and_eq_true] at hB
    have hr : k ∈ Region.ready md ops listed := by simpa using hB.1.1
    have hkn : k < n := by omega
    have hq : qOp P ops C k (wpQuiet P ops C Lq l) a := by unfold qOp; rw [h0]; exact h
    obtain ⟨v, hy, hK⟩ := yieldsIn_of_qOp h0 hq
    refine wpHead_first T h0 hkn (fun _ _ hh => seqB_ready hh.1) l.length listed a inv (Region.free_spec h0 hB.1.2) hr hy (ih (k + 1) _ _ ?_ (by omega) (inv.set hr hkn) hB.2 hK)
    intro j hj
    have := hl (j + 1) (by simp; omega)
    rw [List.getElem?_cons_succ] at this
    rw [this]; congr 1; omega

/-- The head in the order of the text, each operation quiet in the class C; then the tail, from any world of the class. -/
theorem wp_region_tail {id : Nat} {Q : Exit → Act → World → Prop} {a : Act} {w : World} {l : List Oper} (n : Nat) (hm : P.follows .mixedOrders = true) (hB : Region.lexTailB .any l.toArray n = true) (hC : C { w with drawn := w.drawn + 1 })
    (h : wpQuiet P l.toArray C (fun a' => ∀ w', C w' → wpList P l.toArray Q (l.drop n) a' w') (l.take n) a) : (Code.region id l.toArray true).wp P Q a w := by
  simp only [Region.lexTailB, Bool.and_eq_true, decide_eq_true_eq] at hB
  obtain ⟨⟨⟨⟨hsel, hn⟩, hs⟩, hc⟩, hlex⟩ := hB
  have T : TailOk .any l.toArray n := ⟨Region.noSelect_spec hsel, hs, hc, hn⟩
  have hnl : n < l.length := by simpa using hn
  have htk : (l.take n).length = n := by simp; omega
  have inv0 : HeadInv .any l.toArray n (Array.replicate l.toArray.size false) :=
    ⟨by simp, fun j oj _ hj => (by rw [getD_replicate_false] at hj; cases hj), fun t _ ht => getD_in (by simpa using ht) (getD_replicate_false _ _)⟩
  have H := wpHead_lex (C := C) (md := .any) (g := l.toArray.size - n) T (l.take n) 0 _ a (fun j hj => by
    rw [htk] at hj
    simp [hj]) (by simpa using htk) inv0 (by rw [htk]; exact hlex) h
  refine wp_region_any hm ?_
  have hg : (l.drop n).length = l.toArray.size - n := by simp
  have K := wpHead_any (Q' := Q) (g := l.toArray.size - n) (fun listed a' w' hw' hL => by
    have := wpAny_of_seq (md := .any) (Q' := Q) (ops := l.toArray) (l.drop n) n listed a' w' (fun j => by simp [List.getElem?_drop]) (by rw [hg]; exact hL.1) (hL.2 w' hw')
    rwa [hg] at this) _ _ _ _ hC H
  rw [htk, show l.toArray.size - n + n = l.toArray.size by omega] at K
  exact K

/-- A later world: all that lay in w lies there as it lay. -/
def Later (w : World) := { w' : World // Below w.heap.size w w' }
instance laterSome (w : World) : Nonempty (Later w) := ⟨⟨w, Below.refl _ _⟩⟩
theorem Later.cell {w : World} (x : Later w) {b o : Nat} (h : b < w.heap.size) : x.1.cell? ⟨b, o, none⟩ = w.cell? ⟨b, o, none⟩ := x.2.cell (p := ⟨b, o, none⟩) h
theorem Later.frozen {w : World} (x : Later w) {b o : Nat} (h : b < w.heap.size) : x.1.frozen? ⟨b, o, none⟩ = w.frozen? ⟨b, o, none⟩ := x.2.frozen (p := ⟨b, o, none⟩) h
theorem Later.self (w : World) : ∃ x : Later w, { w with drawn := w.drawn + 1 } = x.1 := ⟨⟨w.drew, (Below.refl _ _).drew⟩, rfl⟩
/-- A callee's contract, met in a later world. -/
theorem Later.call {f : FuncId} {args : Array Value} {w : World} {x : Later w} {v : Value} (h : Calls P f args x.1 fun e w' => e = .returned v ∧ Below x.1.heap.size x.1 w') :
    Calls P f args x.1 fun e w' => e = .returned v ∧ ∃ y : Later w, w' = y.1 := h.mono fun e w' ⟨he, hb⟩ => ⟨he, ⟨w', x.2.trans (hb.mono x.2.size)⟩, rfl⟩
theorem Later.call_same {f : FuncId} {args : Array Value} {w : World} {x : Later w} {v : Value} (h : Calls P f args x.1 fun e w' => e = .returned v ∧ x.1 = w') :
    Calls P f args x.1 fun e w' => e = .returned v ∧ ∃ y : Later w, w' = y.1 := h.mono fun e w' ⟨he, hb⟩ => ⟨he, x, hb.symm⟩
theorem Later.call_drew {f : FuncId} {args : Array Value} {w : World} {x : Later w} {v : Value} (h : Calls P f args x.1 fun e w' => e = .returned v ∧ ∃ q, w' = x.1.drewN q) :
    Calls P f args x.1 fun e w' => e = .returned v ∧ ∃ y : Later w, w' = y.1 := h.mono fun e w' ⟨he, q, hb⟩ => ⟨he, ⟨w', by rw [hb]; exact ⟨x.2.os, x.2.tape, x.2.output, x.2.size, x.2.block⟩⟩, rfl⟩
/-- A region of which every operation yields one value in every later world. -/
theorem wp_region_later {id : Nat} {Q : Exit → Act → World → Prop} {a : Act} {w : World} {l : List Oper} (hm : P.follows .mixedOrders = true) (hB : Region.lexB .any l.toArray = true)
    (h : wpQuiet P l.toArray (fun w' => ∃ x : Later w, w' = x.1) (fun a' => ∀ w', (∃ x : Later w, w' = x.1) → Q .normal a' w') l a) : (Code.region id l.toArray true).wp P Q a w :=
  wp_region_quiet (C := fun w' => ∃ x : Later w, w' = x.1) hm hB (Later.self w) (by simpa using h)
/-- The same, a forced tail behind it. -/
theorem wp_region_later_tail {id : Nat} {Q : Exit → Act → World → Prop} {a : Act} {w : World} {l : List Oper} (n : Nat) (hm : P.follows .mixedOrders = true) (hB : Region.lexTailB .any l.toArray n = true)
    (h : wpQuiet P l.toArray (fun w' => ∃ x : Later w, w' = x.1) (fun a' => ∀ w', (∃ x : Later w, w' = x.1) → wpList P l.toArray Q (l.drop n) a' w') (l.take n) a) : (Code.region id l.toArray true).wp P Q a w :=
  wp_region_tail n hm hB (Later.self w) h
end
end Go.Proofs.YtpaholkmlfaflaaGreatDoor

namespace Go.Proofs.YtpaholkmlfaflaaGreatDoor
open Go.RowKit Go.Joins
set_option linter.unusedVariables false

/-- What joined answers. -/
def JoinPost (l : List ByteArray) (w : World) (e : Ending) (w' : World) : Prop := ∃ r, e = .returned (.tuple #[.string r, .bool (joinOk l)]) ∧ (joinOk l = true → r = joinP l) ∧ Below w.heap.size w w'

theorem joinL_size (l : List ByteArray) (h : ∀ s ∈ l, s.size = 64) : (joinL l).size = l.length * 63 := by
  unfold joinL
  rw [S_size]
  induction l with
  | nil => rfl
  | cons s l ih =>
    simp only [List.map_cons, List.flatten_cons, List.length_append, List.length_cons]
    rw [ih (fun x hx => h x (by simp [hx])), data_length, untell_size s (h s (by simp))]
    omega
theorem joinOk_tell {l : List ByteArray} {j : Nat} {s : ByteArray} (hs : l[j]? = some s) (h : s.data.toList.getD 10 0 ≠ 0) : joinOk l = false := by
  unfold joinOk
  rw [Bool.and_eq_false_iff]
  left
  rw [List.all_eq_false]
  exact ⟨s, List.mem_of_getElem? hs, by simpa using h⟩
theorem joinOk_end {l : List ByteArray} (h : ∀ s ∈ l, s.data.toList.getD 10 0 = 0) : joinOk l = decide ((joinL l).extract 512 567 = S (nul 55)) := by
  unfold joinOk
  have : l.all (fun s => s.data.toList.getD 10 0 == 0) = true := by
    rw [List.all_eq_true]; intro s hs; simpa using h s hs
  rw [this, Bool.true_and]
theorem byte10 (s : ByteArray) (h : 10 < s.size) : s.data.toList.getD 10 0 = s[10] := by
  have : s.data.toList[10]? = some s[10] := by rw [List.getElem?_eq_getElem (by simpa using h)]; rfl
  simp [List.getD, this]
theorem takeL_snoc {α : Type} (l : List α) (j : Nat) {s : α} (h : l[j]? = some s) : l.take j ++ [s] = l.take (j + 1) := by
  rw [List.take_add_one, h]; rfl

set_option maxRecDepth 100000 in
set_option maxHeartbeats 4000000 in
theorem joined_any {w : World} {a : Option Addr} {c : Nat} {l : List ByteArray} (hl : l.length = 9) (hat : StrsAt w a l) (hz : ∀ s ∈ l, s.size = 64) :
    Calls Tryz.prog 110 #[.slice a 9 c] w (JoinPost l w) := by
  obtain ⟨b, off, rfl, hc⟩ : ∃ b off, a = some ⟨b, off, none⟩ ∧ ∀ (j : Nat) x, l[j]? = some x → w.cell? ⟨b, off + j, none⟩ = some (.string x) := by
    rcases hat with h | h
    · rw [h] at hl; cases hl
    · exact h
  have HC := Lib.hid hc
  have HL := Lib.hid hl
  clear hat hc hl
  go_enter Tryz.func110, Tryz.ntmps110
  go_wp2_with fail
  go_loopw [4, 6, 9] (fun v _ c wr => ∃ j : Nat, j ≤ 9 ∧ c = .int .i64 j ∧ v = .string (joinL (l.take j)) ∧ (∀ s ∈ l.take j, s.data.toList.getD 10 0 = 0) ∧ Drawn w wr) (fun _ _ c _ => 9 - (intOf c).toNat)
  case atStart => exact ⟨0, Nat.zero_le _, rfl, rfl, (by intro s hs; simp at hs), Drawn.refl _⟩
  case round =>
    obtain ⟨j, hj, rfl, rfl, htell, q, rfl⟩ := hrel
    have HT := Lib.hid htell
    clear htell
    by_cases hlt : j < 9
    · obtain ⟨s, hs⟩ : ∃ s, l[j]? = some s := ⟨l[j]'(by rw [HL.out]; exact hlt), List.getElem?_eq_getElem _⟩
      have hsz := hz s (List.mem_of_getElem? hs)
      have hcell : (w.drewN q).cell? ⟨b, off + j, none⟩ = some (.string s) := HC.out j s hs
      have s1 : 64 ≤ s.size := by omega
      have s2 : s.size ≤ 64 := by omega
      have s3 : 10 < s.size := by omega
      have SZ := Lib.hid hsz
      have HS := Lib.hid hs
      have jz := joinL_size (l.take j) (fun x hx => hz x (List.mem_of_mem_take hx))
      have jz2 : (joinL (l.take j)).size ≤ 567 := by rw [jz, List.length_take]; omega
      clear hsz hs jz
      by_cases h0 : s.data.toList.getD 10 0 = 0
      · have t0 : ((s[10].toNat : Int) != 0) = false := by rw [← byte10 s s3, h0]; rfl
        have H0 := Lib.hid h0
        clear h0
        have i1 : (10 : Int) ≤ (s.size : Int) := by omega
        have i2 : (11 : Int) ≤ (s.size : Int) := by omega
        have i3 : (0 : Int) ≤ 10 := by decide
        have k1 : ¬ (9223372036854775807 < min 10 s.size + (s.size - 11)) := by omega
        have k2 : ¬ (9223372036854775807 < (joinL (l.take j)).size + (min 10 s.size + (s.size - 11))) := by omega
        have hJ : joinL (l.take j) ++ (s.extract 0 10 ++ s.extract 11 s.size) = joinL (l.take (j + 1)) := by
          rw [← takeL_snoc l j HS.out, ← joinL_snoc, SZ.out]; rfl
        have HJ := Lib.hid hJ
        clear hJ
        go_wp2_with fail
        go_quiet (fail)
        go_wp2_with fail
        go_roundw
        case rel =>
          refine ⟨j + 1, by omega, by go_num, by rw [HJ.out], fun x hx => ?_, ⟨_, rfl⟩⟩
          rw [← takeL_snoc l j HS.out] at hx
          rcases List.mem_append.1 hx with hx | hx
          · exact HT.out x hx
          · simp at hx; subst hx; exact H0.out
        case measure => simp [intOf]; omega
      · have t0 : ((s[10].toNat : Int) != 0) = true := by
          rw [byte10 s s3] at h0
          simp only [bne_iff_ne, ne_eq]
          intro e
          apply h0
          apply UInt8.toNat_inj.1
          simpa using e
        have HF := Lib.hid (joinOk_tell HS.out h0)
        clear h0
        go_wp2_with fail
        go_ret2
        exact ⟨⟨#[]⟩, by rw [HF.out]; rfl, (by rw [HF.out]; intro h; cases h), below_drewN (Below.refl _ _) _⟩
    · obtain rfl : j = 9 := by omega
      have ht : l.take 9 = l := List.take_of_length_le (by rw [HL.out]; omega)
      rw [ht] at HT
      have jz := joinL_size l hz
      rw [HL.out] at jz
      have j1 : (joinL l).size ≤ 567 := by omega
      have j2 : 567 ≤ (joinL l).size := by omega
      have j3 : (0 : Int) ≤ 512 := by decide
      have j4 : (512 : Int) ≤ ((joinL l).size : Int) := by omega
      have hE := joinOk_end HT.out
      have HE := Lib.hid hE
      have JZ := Lib.hid jz
      have HTK := Lib.hid ht
      clear jz hE ht
      go_wp2_with fail
      rw [HTK.out]
      have hw1 : IntKind.i64.wrap (((joinL l).size : Int) - 512) = ((joinL l).size : Int) - 512 := IntWalk.i64_in _ (by omega)
      have hr : ∀ W, Calls Tryz.prog 65 #[.string ⟨#[0]⟩, .int .i64 (((joinL l).size : Int) - 512)] W fun e w' => e = .returned (.string (S (nul 55))) ∧ Below W.heap.size W w' := fun W => by
        have e55 : (((joinL l).size : Int) - 512).toNat = 55 := by omega
        have := repeat_nul (((joinL l).size : Int) - 512) W (by omega) (by omega)
        rwa [e55] at this
      have HR := Lib.hid hr
      have hjx : (joinL l).extract 512 (joinL l).size = (joinL l).extract 512 567 := by rw [JZ.out]
      have JX := Lib.hid hjx
      clear hr hjx
      by_cases heq : (joinL l).extract 512 567 = S (nul 55)
      · have st := str_eq heq
        rw [← JX.out] at st
        have HQ := Lib.hid heq
        clear heq
        refine wp_region_later (by kernel_rfl) (by kernel_rfl) ?_
        repeat (quiet_step ((go_at_call 65; refine Later.call (HR.out _))))
        refine wpQuiet_nil ?_
        intro _ hw'
        obtain ⟨⟨w6, hb6⟩, hw''⟩ := hw'
        subst hw''
        go_wp2_with fail
        go_ret2
        exact ⟨joinP l, by rw [HE.out, decide_eq_true HQ.out]; rfl, fun _ => rfl, below_step hb6 (below_drewN (Below.refl _ _) _)⟩
      · have st := str_ne heq
        rw [← JX.out] at st
        have HQ := Lib.hid heq
        clear heq
        refine wp_region_later (by kernel_rfl) (by kernel_rfl) ?_
        repeat (quiet_step ((go_at_call 65; refine Later.call (HR.out _))))
        refine wpQuiet_nil ?_
        intro _ hw'
        obtain ⟨⟨w6, hb6⟩, hw''⟩ := hw'
        subst hw''
        go_wp2_with fail
        go_ret2
        exact ⟨joinP l, by rw [HE.out, decide_eq_false HQ.out]; rfl, fun _ => rfl, below_step hb6 (below_drewN (Below.refl _ _) _)⟩

end Go.Proofs.YtpaholkmlfaflaaGreatDoor

namespace Go.Proofs.YtpaholkmlfaflaaGreatDoor
open Go.RowKit Go.Maps Go.Joins
set_option linter.unusedVariables false

set_option maxRecDepth 100000 in
set_option maxHeartbeats 400000 in
theorem down_at (w : World) (d : Nat) (b : Bool) (hc : w.cell? ⟨d, 4, none⟩ = some (.bool b)) :
    Calls Tryz.prog 80 #[.pointer (some ⟨d, 0, none⟩)] w fun e w' => e = .returned (.bool b) ∧ w = w' := by
  go_enter Tryz.func80, Tryz.ntmps80
  go_wp2_with fail
  go_ret
  exact ⟨rfl, rfl⟩
set_option maxRecDepth 100000 in
set_option maxHeartbeats 400000 in
theorem down_nil (w : World) :
    Calls Tryz.prog 80 #[.pointer none] w fun e w' => e = .returned (.bool true) ∧ w = w' := by
  go_enter Tryz.func80, Tryz.ntmps80
  go_wp2_with fail
  go_ret
  exact ⟨rfl, rfl⟩
set_option maxRecDepth 100000 in
set_option maxHeartbeats 400000 in
theorem len_at (w : World) (d sb n sc : Nat) (hc : w.cell? ⟨d, 0, none⟩ = some (.slice (some ⟨sb, 0, none⟩) n sc)) :
    Calls Tryz.prog 10 #[.pointer (some ⟨d, 0, none⟩)] w fun e w' => e = .returned (.int .i64 n) ∧ w = w' := by
  go_enter Tryz.func10, Tryz.ntmps10
  go_wp2_with fail
  go_ret
  exact ⟨rfl, rfl⟩
set_option maxRecDepth 100000 in
set_option maxHeartbeats 400000 in
theorem len_nil (w : World) :
    Calls Tryz.prog 10 #[.pointer none] w fun e w' => e = .returned (.int .i64 0) ∧ w = w' := by
  go_enter Tryz.func10, Tryz.ntmps10
  go_wp2_with fail
  go_ret
  exact ⟨rfl, rfl⟩
set_option maxRecDepth 100000 in
set_option maxHeartbeats 400000 in
theorem pending_at (w : World) (d : Nat) (a : Option Addr) (n c : Nat) (hc : w.cell? ⟨d, 1, none⟩ = some (.slice a n c)) :
    Calls Tryz.prog 16 #[.pointer (some ⟨d, 0, none⟩)] w fun e w' => e = .returned (.int .i64 n) ∧ w = w' := by
  go_enter Tryz.func16, Tryz.ntmps16
  go_wp2_with fail
  go_ret
  exact ⟨rfl, rfl⟩
set_option maxRecDepth 100000 in
set_option maxHeartbeats 400000 in
theorem pending_nil (w : World) :
    Calls Tryz.prog 16 #[.pointer none] w fun e w' => e = .returned (.int .i64 0) ∧ w = w' := by
  go_enter Tryz.func16, Tryz.ntmps16
  go_wp2_with fail
  go_ret
  exact ⟨rfl, rfl⟩

/-- What the fuse leaves: does the call go on, and the disk behind it. -/
def burnM (m : DM) : Bool × DM :=
  if m.fuse = 0 then (false, { m with down := true, fuse := -1 }) else if 0 < m.fuse then (true, { m with fuse := m.fuse - 1 }) else (true, m)

set_option maxRecDepth 100000 in
set_option maxHeartbeats 1000000 in
theorem burn_any {w : World} {d sb sc M : Nat} {wv : Value} {D : DataW Unit} {m : DM} (h : DiskAt w d sb sc M wv D m) (hf : m.fuse ≤ 9223372036854775807) :
    Calls Tryz.prog 81 #[.pointer (some ⟨d, 0, none⟩)] w fun e w' => e = .returned (.bool (burnM m).1) ∧ DiskAt w' d sb sc M wv D (burnM m).2 ∧ Touch [d] w w' := by
  obtain ⟨_, _, _, c3, c4⟩ := h.cell
  have f3 := h.frozen 3
  have f4 := h.frozen 4
  by_cases h0 : m.fuse = 0
  · have hm : burnM m = (false, { m with down := true, fuse := -1 }) := by simp [burnM, h0]
    have R := (h.setDown true).setFuse (-1)
    have F := Lib.hid hm
    have e0 : (m.fuse == 0) = true := by simp [h0]
    clear hm h0
    generalize m.fuse = n at *
    go_enter Tryz.func81, Tryz.ntmps81
    go_wp2_with fail
    go_ret
    rw [F.out]
    exact ⟨rfl, R, ((Touch.refl _ _).setCell (.inl (by simp)) _).setCell (.inl (by simp)) _⟩
  · by_cases h1 : 0 < m.fuse
    · have hm : burnM m = (true, { m with fuse := m.fuse - 1 }) := by simp [burnM, h0, h1]
      have R := h.setFuse (m.fuse - 1)
      have F := Lib.hid hm
      have e0 : (m.fuse == 0) = false := by simp [h0]
      clear hm h0
      generalize m.fuse = n at *
      go_enter Tryz.func81, Tryz.ntmps81
      go_wp2_with fail
      go_ret
      rw [F.out]
      exact ⟨rfl, R, (Touch.refl _ _).setCell (.inl (by simp)) _⟩
    · have hm : burnM m = (true, m) := by simp [burnM, h0, h1]
      have F := Lib.hid hm
      have e0 : (m.fuse == 0) = false := by simp [h0]
      clear hm h0
      generalize hn : m.fuse = n at *
      clear hn
      go_enter Tryz.func81, Tryz.ntmps81
      go_wp2_with fail
      go_ret
      rw [F.out]
      exact ⟨rfl, h, Touch.refl _ _⟩

/-! Reading. -/
theorem zeroStr (w : World) : (zeroValue 9).run Tryz.prog w = .ok (.string ⟨#[]⟩) w := by kernel_rfl
theorem look_disk {w : World} {M n : Nat} {D : DataW Unit} {f : Int → Option ByteArray} (h : w.ownsMap Tryz.prog 3 (plainElem Tryz.prog 9) M n D) (hm : MapIs D f) (i : Int) (hwf : (Lit.int .i64 i).wf = true) :
    (Instr.lookup 88 (.map (some M)) (.int .i64 i) true).run Tryz.prog w = .ok (.tuple #[.string ((f i).getD ⟨#[]⟩), .bool (f i).isSome]) w := by
  obtain ⟨v, ps, hrun, hv⟩ := h.look_ok Tryz.keyInt Tryz.underlying88 (zeroStr w) (plainElem_string Tryz.underlying9 (s := ⟨#[]⟩) (by decide)) (keyOf_int_mk Tryz.underlying3 hwf)
  obtain ⟨s, rfl, he, _⟩ := plainElem_string_inv Tryz.underlying9 hv
  obtain ⟨h1, h2⟩ := hm.2 i
  rw [hrun, h1]
  rw [h2] at he
  cases hf : f i with
  | none =>
    rw [hf] at he
    simp at he
    have : s = ⟨#[]⟩ := by rw [← S_data s, he.1]; rfl
    rw [this]; rfl
  | some t =>
    rw [hf] at he
    simp at he
    have : s = t := by rw [← S_data s, ← S_data t, he.1]
    rw [this]; rfl

/-- What is read. -/
def rdM (m : DM) (i : Int) : ByteArray × Int :=
  if m.down then (⟨#[]⟩, 11) else if i < 0 ∨ (m.sure.length : Int) ≤ i then (⟨#[]⟩, 1) else ((lastW m.wait i).getD (m.sure.getD i.toNat ⟨#[]⟩), 0)

set_option maxRecDepth 100000 in
set_option maxHeartbeats 1000000 in
theorem read_any {w : World} {d sb sc M : Nat} {wv : Value} {D : DataW Unit} {m : DM} (h : DiskAt w d sb sc M wv D m) (i : Int) (h1 : -9223372036854775808 ≤ i) (h2 : i ≤ 9223372036854775807) :
    Calls Tryz.prog 53 #[.pointer (some ⟨d, 0, none⟩), .int .i64 i] w fun e w' => e = .returned (.tuple #[.string (rdM m i).1, .int .i64 (rdM m i).2]) ∧ w = w' := by
  obtain ⟨c0, _, c2, c3, c4⟩ := h.cell
  by_cases hd : m.down = true
  · have F := Lib.hid (show rdM m i = (⟨#[]⟩, 11) by simp [rdM, hd])
    rw [hd] at c4
    clear hd
    go_enter Tryz.func53, Tryz.ntmps53
    go_wp2_with fail
    refine (down_at _ _ _ c4).mono ?_
    rintro e w1 ⟨rfl, rfl⟩
    go_wp2_with fail
    go_ret2
    rw [F.out]
    exact ⟨rfl, rfl⟩
  · have hd : m.down = false := by simpa using hd
    rw [hd] at c4
    by_cases hneg : i < 0
    · have F := Lib.hid (show rdM m i = (⟨#[]⟩, 1) by simp [rdM, hd, hneg])
      clear hd
      go_enter Tryz.func53, Tryz.ntmps53
      go_wp2_with fail
      refine (down_at _ _ _ c4).mono ?_
      rintro e w1 ⟨rfl, rfl⟩
      go_wp2_with fail
      go_ret2
      rw [F.out]
      exact ⟨rfl, rfl⟩
    · obtain ⟨i, rfl⟩ := Int.eq_ofNat_of_zero_le (show 0 ≤ i by omega)
      by_cases hbig : m.sure.length ≤ i
      · have F := Lib.hid (show rdM m i = (⟨#[]⟩, 1) by simp [rdM, hd, hbig])
        clear hd hneg
        go_enter Tryz.func53, Tryz.ntmps53
        go_wp2_with fail
        refine (down_at _ _ _ c4).mono ?_
        rintro e w1 ⟨rfl, rfl⟩
        go_wp2_with fail
        go_ret2
        rw [F.out]
        exact ⟨rfl, rfl⟩
      · have hlt : i < m.sure.length := by omega
        have hl := look_disk h.map h.mapIs i (WalkArith.wf_i64 (by omega))
        have F := Lib.hid (show rdM m i = ((lastW m.wait i).getD (m.sure.getD i ⟨#[]⟩), 0) by simp [rdM, hd]; omega)
        have c5 := h.sure.cellAt i (by omega)
        have c5' : (m.sure.map Value.string)[i]? = some (.string (m.sure.getD i ⟨#[]⟩)) := by simp [hlt]
        rw [c5'] at c5
        clear hd hbig hneg c5'
        generalize m.sure.getD i ⟨#[]⟩ = s0 at *
        cases hw : lastW m.wait i with
        | none =>
          rw [hw] at hl F
          simp only [Option.getD_none, Option.isSome_none] at hl
          clear hw
          go_enter Tryz.func53, Tryz.ntmps53
          go_wp2_with fail
          refine (down_at _ _ _ c4).mono ?_
          rintro e w1 ⟨rfl, rfl⟩
          go_wp2_with fail
          go_ret2
          rw [F.out]
          exact ⟨rfl, rfl⟩
        | some t =>
          rw [hw] at hl F
          simp only [Option.getD_some, Option.isSome_some] at hl
          clear hw
          go_enter Tryz.func53, Tryz.ntmps53
          go_wp2_with fail
          refine (down_at _ _ _ c4).mono ?_
          rintro e w1 ⟨rfl, rfl⟩
          go_wp2_with fail
          go_ret2
          rw [F.out]
          exact ⟨rfl, rfl⟩

/-! The fuse. -/
def fuM (m : DM) (n : Int) : DM := { m with fuse := max n (-1) }
set_option maxRecDepth 100000 in
set_option maxHeartbeats 400000 in
theorem fuse_any {w : World} {d sb sc M : Nat} {wv : Value} {D : DataW Unit} {m : DM} (h : DiskAt w d sb sc M wv D m) (n : Int) (h1 : -9223372036854775808 ≤ n) (h2 : n ≤ 9223372036854775807) :
    Calls Tryz.prog 39 #[.pointer (some ⟨d, 0, none⟩), .int .i64 n] w fun e w' => e = .returned (.tuple #[]) ∧ DiskAt w' d sb sc M wv D (fuM m n) ∧ Touch [d] w w' := by
  obtain ⟨_, _, _, c3, _⟩ := h.cell
  have f3 := h.frozen 3
  have R := h.setFuse (max n (-1))
  go_enter Tryz.func39, Tryz.ntmps39
  go_wp2_with fail
  go_end0
  exact ⟨rfl, R, (Touch.refl _ _).setCell (.inl (by simp)) _⟩
set_option maxRecDepth 100000 in
set_option maxHeartbeats 400000 in
theorem fuse_nil (n : Int) (w : World) :
    Calls Tryz.prog 39 #[.pointer none, .int .i64 n] w fun e w' => e = .returned (.tuple #[]) ∧ w = w' := by
  go_enter Tryz.func39, Tryz.ntmps39
  go_wp2_with fail
  go_end0
  exact ⟨rfl, rfl⟩

/-! Writing. -/
theorem cells_ne {w : World} {b g n : Nat} {t t' : TypeId} {f : Nat → Value} {cur : Array Value} (h : w.rowIs b t n f) (hg : w.heap[g]? = some (.cells cur t' (0, 0))) (ht : t ≠ t') : g ≠ b := by
  rintro rfl
  obtain ⟨c, hc, _⟩ := h
  rw [hc] at hg
  simp at hg
  exact ht hg.2
theorem disk_written {w1 w2 w3 : World} {d sb sc M g cap : Nat} {wv : Value} {D : DataW Unit} {m : DM} {o : Obj} {i : Int} {s : ByteArray} (h : DiskAt w1 d sb sc M wv D m)
    (hown : w2.ownsRow 0 121 2 (.slice (some ⟨g, 0, none⟩) (m.wait.length + 1) cap) (m.wait.length + 1) (waitCells m.wait ++ [.int .i64 i, .string s])) (hgrow : (w1.alloc o).grownBy w2 wv.ownBlock)
    (hmap : w3.ownsMap Tryz.prog 3 (plainElem Tryz.prog 9) M (m.wait.length + 1) (D.put (.int .i64 i) (.lit (.string s.data.toList))))
    (hg3 : (w2.setCell ⟨d, 1, none⟩ (.slice (some ⟨g, 0, none⟩) (m.wait.length + 1) cap)).grownBy w3 (some M)) :
    DiskAt w3 d sb sc M (.slice (some ⟨g, 0, none⟩) (m.wait.length + 1) cap) (D.put (.int .i64 i) (.lit (.string s.data.toList))) { m with wait := m.wait ++ [(i, s)] } ∧ Touch (diskB d sb M wv) w1 w3 := by
  have t1 : Touch wv.ownBlock.toList w1 w2 := ((Touch.refl _ _).alloc o).trans (Touch.of_grown hgrow) (fun b hb => .inl hb)
  have hd2 := rowIs_touch h.cells t1 (by simp; exact fun e => (h.ne4 d e).1 rfl)
  have hs2 := ownsRow_touch h.sure t1 (by intro g' hg'; cases hg'; simp; exact fun e => (h.ne4 sb e).2.1 rfl)
  have hM1 : M ∉ wv.ownBlock.toList := by simp; exact fun e => (h.ne4 M e).2.2 rfl
  have hm2 := ownsMap_touch h.map t1 hM1
  obtain ⟨gg, hgg⟩ : ∃ cur, w2.heap[g]? = some (.cells cur 121 (0, 0)) := by
    rcases hown.2 with ⟨h0, _⟩ | ⟨g', cap', cur, hv, _, hg', _⟩
    · cases h0
    · cases hv; exact ⟨cur, hg'⟩
  have n1 : g ≠ d := cells_ne hd2 hgg (by decide)
  have n2 : g ≠ sb := by
    rintro rfl
    rcases hs2.2 with ⟨h0, _⟩ | ⟨g', cap', cur, hv, _, hg', _⟩
    · cases h0
    · cases hv; rw [hg'] at hgg; simp at hgg
  have n3 : g ≠ M := by
    rintro rfl
    obtain ⟨es, clock, hb, _⟩ := hm2
    rw [hb] at hgg; simp at hgg
  have t2 : Touch [d] w2 (w2.setCell ⟨d, 1, none⟩ (.slice (some ⟨g, 0, none⟩) (m.wait.length + 1) cap)) := (Touch.refl _ _).setCell (.inl (by simp)) _
  have t3 := Touch.of_grown hg3
  have hd3 := World.rowIs.set hd2 1 (.slice (some ⟨g, 0, none⟩) (m.wait.length + 1) cap)
  have hd4 := rowIs_touch hd3 t3 (by simp; exact h.ne2)
  have hs4 := ownsRow_touch (ownsRow_touch hs2 t2 (by intro g' hg'; cases hg'; simp; exact fun e => h.ne1 e.symm)) t3 (by intro g' hg'; cases hg'; simp; exact h.ne3)
  have ho4 := ownsRow_touch (ownsRow_touch hown t2 (by intro g' hg'; cases hg'; simp; exact n1)) t3 (by intro g' hg'; cases hg'; simp; exact n3)
  rw [waitCells_snoc] at ho4
  refine ⟨⟨World.rowIs.congr hd4 (fun j hj => by rcases j with _ | _ | _ | _ | _ | j <;> first | rfl | omega), hs4, ?_, ?_, ?_, h.ne1, h.ne2, h.ne3, ?_⟩, ?_⟩
  · simpa using ho4
  · simpa using hmap
  · refine ⟨h.mapIs.1.put _ _, fun k => ?_⟩
    rw [lastW_snoc]
    by_cases hk : i = k
    · subst hk
      rw [if_pos rfl, has_put_same h.mapIs.1 (by simp [WideAt.IsKeyLit])]
      exact ⟨rfl, fun z => atKey_put_same h.mapIs.1 (by simp [WideAt.IsKeyLit]) _ _⟩
    · have hne : (Lit.int .i64 k) ≠ (Lit.int .i64 i) := by intro e; injection e with _ e; exact hk e.symm
      rw [if_neg hk, has_put_other hne]
      exact ⟨(h.mapIs.2 k).1, fun z => by rw [atKey_put_other hne]; exact (h.mapIs.2 k).2 z⟩
  · intro g' hg'; cases hg'; exact ⟨n1, n2, n3⟩
  · have k1 : Touch (diskB d sb M wv) w1 w2 := t1.mono (fun b hb => .inl (by simp [diskB] at hb ⊢; exact .inr (.inr (.inr hb))))
    have k2 : Touch (diskB d sb M wv) w1 (w2.setCell ⟨d, 1, none⟩ (.slice (some ⟨g, 0, none⟩) (m.wait.length + 1) cap)) := k1.setCell (.inl (by simp [diskB])) _
    exact k2.trans t3 (fun b hb => .inl (by simp at hb; subst hb; simp [diskB]))

theorem Tryz.infoWrite : (Tryz.prog.info? 121).map (fun i => (i.zero, i.size, i.bytes)) = some (some (.agg #[.int .i64 0, .string ⟨#[]⟩]), 2, 24) := by kernel_rfl

/-- Where a disk goes: it lies in blocks that it had, or in new ones; nothing else has turned. -/
def Goes (w w' : World) (d : Nat) (F : List Nat) (m' : DM) : Prop := ∃ F', IsDisk w' d F' m' ∧ Touch F w w' ∧ ∀ b ∈ F', b ∈ F ∨ w.heap.size ≤ b
theorem Goes.of_at {w w' : World} {d sb sc M : Nat} {wv : Value} {D : DataW Unit} {m : DM} {G : List Nat} (h : DiskAt w' d sb sc M wv D m) (t : Touch G w w') (hG : ∀ b ∈ G, b ∈ diskB d sb M wv) : Goes w w' d (diskB d sb M wv) m :=
  ⟨_, ⟨sb, sc, M, wv, D, h, rfl⟩, t.mono (fun b hb => .inl (hG b hb)), fun b hb => .inl hb⟩

/-- What writing answers, and leaves. -/
def wrM (m : DM) (i : Int) (s : ByteArray) : Int × DM :=
  if m.down then (11, m) else if i < 0 ∨ (m.sure.length : Int) ≤ i ∨ s.size ≠ 64 then (1, m)
  else if (burnM m).1 then (0, { (burnM m).2 with wait := (burnM m).2.wait ++ [(i, s)] }) else (11, (burnM m).2)

theorem burnM_wait (m : DM) : (burnM m).2.wait = m.wait ∧ (burnM m).2.sure = m.sure := by
  unfold burnM; split
  · exact ⟨rfl, rfl⟩
  · split <;> exact ⟨rfl, rfl⟩

set_option maxRecDepth 100000 in
set_option maxHeartbeats 2000000 in
theorem write_any {w : World} {d sb sc M : Nat} {wv : Value} {D : DataW Unit} {m : DM} (h : DiskAt w d sb sc M wv D m) (i : Int) (s : ByteArray) (h1 : -9223372036854775808 ≤ i) (h2 : i ≤ 9223372036854775807) (hf : m.fuse ≤ 9223372036854775807)
    (hs : s.size ≤ 9223372036854775807) (hw : m.wait.length ≤ 1000000000) :
    Calls Tryz.prog 45 #[.pointer (some ⟨d, 0, none⟩), .int .i64 i, .string s] w fun e w' => e = .returned (.int .i64 (wrM m i s).1) ∧ Goes w w' d (diskB d sb M wv) (wrM m i s).2 := by
  obtain ⟨c0, _, c2, c3, c4⟩ := h.cell
  obtain ⟨i0, hi, hz0, hz1, hz2⟩ := info_parts Tryz.infoWrite
  by_cases hd : m.down = true
  · have F := Lib.hid (show wrM m i s = (11, m) by simp [wrM, hd])
    rw [hd] at c4
    clear hd
    go_enter Tryz.func45, Tryz.ntmps45
    go_wp2_with fail
    refine (down_at _ _ _ c4).mono ?_
    rintro e w1 ⟨rfl, rfl⟩
    go_wp2_with fail
    go_ret
    rw [F.out]
    exact ⟨rfl, Goes.of_at h (Touch.refl [] _) (by simp)⟩
  · have hd : m.down = false := by simpa using hd
    rw [hd] at c4
    by_cases hneg : i < 0
    · have F := Lib.hid (show wrM m i s = (1, m) by simp [wrM, hd, hneg])
      clear hd
      go_enter Tryz.func45, Tryz.ntmps45
      go_wp2_with fail
      refine (down_at _ _ _ c4).mono ?_
      rintro e w1 ⟨rfl, rfl⟩
      go_wp2_with fail
      go_ret
      rw [F.out]
      exact ⟨rfl, Goes.of_at h (Touch.refl [] _) (by simp)⟩
    · obtain ⟨i, rfl⟩ := Int.eq_ofNat_of_zero_le (show 0 ≤ i by omega)
      by_cases hbig : m.sure.length ≤ i
      · have F := Lib.hid (show wrM m i s = (1, m) by simp [wrM, hd, hbig])
        clear hd hneg
        go_enter Tryz.func45, Tryz.ntmps45
        go_wp2_with fail
        refine (down_at _ _ _ c4).mono ?_
        rintro e w1 ⟨rfl, rfl⟩
        go_wp2_with fail
        go_ret
        rw [F.out]
        exact ⟨rfl, Goes.of_at h (Touch.refl [] _) (by simp)⟩
      · have hlt : i < m.sure.length := by omega
        by_cases hz : s.size = 64
        · have hz' : ((s.size : Int) != 64) = false := by simp [hz]
          have hsp : wrM m i s = if (burnM m).1 then (0, { (burnM m).2 with wait := (burnM m).2.wait ++ [((i : Int), s)] }) else (11, (burnM m).2) := by
            have h1 : ¬ ((i : Int) < 0 ∨ (m.sure.length : Int) ≤ i ∨ s.size ≠ 64) := by omega
            unfold wrM; rw [hd, if_neg (by decide), if_neg h1]
          have hB := burnM_wait m
          have hb := burn_any h hf
          have HB := Lib.hid hb
          clear hb hd hneg hbig hz
          cases hbb : (burnM m).1
          · rw [hbb] at hsp HB
            have F := Lib.hid hsp
            clear hsp hB hbb
            go_enter Tryz.func45, Tryz.ntmps45
            go_wp2_with fail
            refine (down_at _ _ _ c4).mono ?_
            rintro e w1 ⟨rfl, rfl⟩
            go_wp2_with fail
            refine HB.out.mono ?_
            rintro e w1 ⟨rfl, hD1, ht1⟩
            go_wp2_with fail
            go_ret
            rw [F.out]
            exact ⟨rfl, Goes.of_at hD1 ht1 (by simp [diskB])⟩
          · rw [hbb] at hsp HB
            have F := Lib.hid hsp
            clear hsp hbb
            go_enter Tryz.func45, Tryz.ntmps45
            go_wp2_with fail
            refine (down_at _ _ _ c4).mono ?_
            rintro e w1 ⟨rfl, rfl⟩
            go_wp2_with fail
            refine HB.out.mono ?_
            rintro e w1 ⟨rfl, hD1, ht1⟩
            clear c0 c2 c3 c4
            have hl : (burnM m).2.wait.length ≤ 1000000000 := by rw [hB.1]; exact hw
            clear hB hw
            have H1 := Lib.hid hD1
            generalize (burnM m).2 = m1 at *
            obtain ⟨_, c1, c2, _, _⟩ := hD1.cell
            have f1 := hD1.frozen 1
            have hown := hD1.wait
            have hwf : (Lit.int .i64 (i : Int)).wf = true := WalkArith.wf_i64 (by omega)
            have hsz : s.size ≤ maxLen := by unfold maxLen; omega
            clear hD1
            go_wp2_with (first
              | (at_builtin; refine wpList_append_near _ rfl (.tmp 35) (.tmp 39) 87 rfl 0 121 i0 _ 2 24 Tryz.underlying87 hi hz0 hz1 hz2 rfl (by decide) _ _ _ rfl (hown.alloc _) ⟨w1.heap.size, 0, none⟩ 1 1 [.int .i64 i, .string s] rfl (by decide) rfl ?c1 ?c2 ?c3 ?c4 ?c5 ?_)
              | fail)
            case c1 => exact cell_pair _ _ _ _
            case c2 => intro u hu; simp at hu; rcases hu with rfl | rfl <;> rfl
            case c3 => unfold maxLen; omega
            case c4 => omega
            case c5 => exact Nat.zero_le _
            · intro g cap w2 hown' hgrow hnear
              have HN := Lib.hid hnear
              clear hnear
              have t1 : Touch wv.ownBlock.toList w1 w2 := ((Touch.refl _ _).alloc _).trans (Touch.of_grown hgrow) (fun b hb => .inl hb)
              have hdF : d ∉ wv.ownBlock.toList := by simp; exact fun e => (H1.out.ne4 d e).1 rfl
              have hdl : d < w1.heap.size := World.rowIs.lt H1.out.cells
              have k1 : w2.cell? ⟨d, 1, none⟩ = some wv := (t1.cell (p := ⟨d, 1, none⟩) hdl hdF).trans c1
              have k2 : w2.cell? ⟨d, 2, none⟩ = some (.map (some M)) := (t1.cell (p := ⟨d, 2, none⟩) hdl hdF).trans c2
              have kf : w2.frozen? ⟨d, 1, none⟩ = false := (t1.frozen (p := ⟨d, 1, none⟩) hdl hdF).trans f1
              have HM : (w2.setCell ⟨d, 1, none⟩ (.slice (some ⟨g, 0, none⟩) (m1.wait.length + 1) cap)).ownsMap Tryz.prog 3 (plainElem Tryz.prog 9) M m1.wait.length D :=
                ownsMap_touch (ownsMap_touch H1.out.map t1 (by simp; exact fun e => (H1.out.ne4 M e).2.2 rfl)) ((Touch.refl [d] _).setCell (.inl (by simp)) _) (by simp; exact fun e => H1.out.ne2 e.symm)
              have HO := Lib.hid hown'
              have HG := Lib.hid hgrow
              have HT := Lib.hid t1
              clear hown' hgrow t1 hdF hdl c1 c2 f1 hown
              go_wp2_with (at_mapUpdate; refine wpList_mapUpdate_own _ rfl (.tmp 46) (.tmp 47) (.tmp 48) 88 rfl 3 9 Tryz.keyInt Tryz.underlying88 _ M m1.wait.length D rfl HM (by unfold maxLen; omega) _ _ (.int .i64 i) rfl rfl (keyOf_int_mk Tryz.underlying3 hwf) _ [] (plainElem_string Tryz.underlying9 hsz) ?_; intro w3 hmap3 hgrow3)
              go_ret
              rw [F.out]
              obtain ⟨hA, hT⟩ := disk_written H1.out HO.out HG.out hmap3 hgrow3
              refine ⟨rfl, _, ⟨_, _, _, _, _, hA, rfl⟩, (ht1.mono (fun b hb => .inl ?_)).trans hT (fun b hb => .inl hb), ?_⟩
              · simp at hb; subst hb; simp [diskB]
              · intro b hb
                simp only [diskB, List.mem_cons, Option.mem_toList] at hb ⊢
                rcases hb with rfl | rfl | rfl | hb
                · exact .inl (.inl rfl)
                · exact .inl (.inr (.inl rfl))
                · exact .inl (.inr (.inr (.inl rfl)))
                · cases hb
                  rcases HN.out with hn | hn
                  · exact .inl (.inr (.inr (.inr hn)))
                  · exact .inr (Nat.le_trans ht1.size (by first | exact hn | exact Nat.le_trans (by simp) hn))
        · have hz' : ((s.size : Int) != 64) = true := by simp; omega
          have F := Lib.hid (show wrM m i s = (1, m) by simp [wrM, hd, hz])
          clear hd hneg hbig hz
          go_enter Tryz.func45, Tryz.ntmps45
          go_wp2_with fail
          refine (down_at _ _ _ c4).mono ?_
          rintro e w1 ⟨rfl, rfl⟩
          go_wp2_with fail
          go_ret
          rw [F.out]
          exact ⟨rfl, Goes.of_at h (Touch.refl [] _) (by simp)⟩

end Go.Proofs.YtpaholkmlfaflaaGreatDoor

