/- The walks of the laws PageCuts and PagePacks. -/
import Derived.Test.YteiomhojflianaaPageRef
import Derived.Test.YteiomhojflianaaCut
namespace Go.Proofs.Yteiomhojflianaa
open Go.RowKit Go.Joins
set_option linter.unusedVariables false

/-- The document's example. -/
def pg12 : ByteArray := pgStr 1 2 ⟨#[120]⟩
theorem pg12_size : pg12.size = 512 := pgStr_size 1 2 ⟨#[120]⟩ (by decide)
theorem pg12_at (i : Nat) (h : i < pg12.size) : (pg12[i]'h).toNat = (pg12.data.toList[i]?.getD 0).toNat := by
  have : pg12.data.toList[i]? = some (pg12[i]'h) := by
    rw [List.getElem?_eq_getElem (by simpa using h)]; rfl
  rw [this]; rfl
theorem pg12_list : pg12.data.toList = leB (crcV (pgBody 1 2 ⟨#[120]⟩)) 4 ++ (leB 1 1 ++ leB 2 4 ++ nul 7 ++ [120] ++ nul 495) := by
  unfold pg12 pgStr; rw [data_S]; rfl
theorem pg12_back (j : Nat) : pg12.data.toList[4 + j]? = (leB 1 1 ++ leB 2 4 ++ nul 7 ++ [120] ++ nul 495)[j]? := by
  rw [pg12_list, List.getElem?_append_right (by rw [leB_length]; omega), leB_length]; congr 1; omega
theorem pg12_4 (h : 4 < pg12.size) : (pg12[4]'h).toNat = 1 := by rw [pg12_at, pg12_back 0]; rfl
theorem pg12_5 (h : 5 < pg12.size) : (pg12[5]'h).toNat = 2 := by rw [pg12_at, pg12_back 1]; rfl
theorem pg12_16 (h : 16 < pg12.size) : (pg12[16]'h).toNat = 120 := by rw [pg12_at, pg12_back 12]; rfl

set_option maxHeartbeats 400000 in
theorem awake08_any (w : World) : Calls Try.prog 9 #[] w fun e w' => e = .returned (.bool true) ∧ Below w.heap.size w w' := by
  have h1 := pg12_size
  have h2 := pg12_4
  have h3 := pg12_5
  have h4 := pg12_16
  go_enter Try.func9, Try.ntmps9
  go_wp2_with fail
  refine (pack_any 1 2 ⟨#[120]⟩ _ (by decide) (by decide)).mono ?_
  rintro e w1 ⟨rfl, hb1⟩
  have e0 : pgStr 1 2 ⟨#[120]⟩ = pg12 := rfl
  rw [e0]
  clear e0
  go_wp2_with fail
  go_ret
  exact ⟨rfl, hb1⟩

/-! The page put together again. -/
theorem cut_size (s : ByteArray) (i : Nat) (h : s.size = 512) (hi : i < 8) : (s.extract (i * 64) ((i + 1) * 64)).size = 64 := by
  rw [ByteArray.size_extract]; omega
theorem cut_whole (s : ByteArray) (h : s.size = 512) : s.extract 0 (8 * 64) = s := by
  rw [extract_cut]
  unfold cut
  rw [List.drop_zero, List.take_of_length_le (by rw [data_length]; omega), S_data]
theorem cutCells_get (s : ByteArray) (i : Nat) (h : i < 8) : (cutCells s 8)[i]? = some (.string (s.extract (i * 64) ((i + 1) * 64))) := by
  simp [cutCells, h]

set_option maxHeartbeats 1000000 in
theorem pageCuts_walk (s : ByteArray) (w : World) (hs0 : s.size ≤ 140737488351232) :
    Calls Try.prog 7 #[.string s] w fun e w' => e = .returned (.bool true) ∧ Below w.heap.size w w' := by
  by_cases hbig : 5000 < s.size
  · go_enter Try.func7, Try.ntmps7
    go_wp2_with fail
    refine (awake08_any _).mono ?_
    rintro e w1 ⟨rfl, hb1⟩
    go_wp2_with fail
    go_ret
    exact ⟨rfl, hb1⟩
  · by_cases hz : s.size = 512
    · have z1 : s.size ≤ 512 := by omega
      have z3 : ((s.size : Int) != 512) = false := by simp [hz]
      have z4 : decide ((5000 : Int) < s.size) = false := by simp; omega
      have Z := Lib.hid hz
      clear hz hbig
      go_enter Try.func7, Try.ntmps7
      go_wp2_with fail
      refine (cut_any s _ Z.out).mono ?_
      rintro e w1 ⟨g, cap, rfl, hown, hb1⟩
      go_wp2_with fail
      go_loop [4, 5] (fun t c => ∃ i : Nat, i ≤ 8 ∧ c = .int .i64 i ∧ t = .string (s.extract 0 (i * 64))) (fun _ c => 8 - (intOf c).toNat)
      case atStart => exact ⟨0, Nat.zero_le _, rfl, by rw [Nat.zero_mul, extract_cut]; rfl⟩
      case round =>
        obtain ⟨i, hi, rfl, rfl⟩ := hrel
        by_cases hlt : i < 8
        · have c1 := hown.cellAt i (by omega)
          rw [cutCells_get s i hlt] at c1
          have c2 := cut_size s i Z.out hlt
          have c3 : (s.extract 0 (i * 64)).size ≤ 512 := by rw [ByteArray.size_extract]; omega
          go_wp2_with fail
          go_round
          case rel => exact ⟨i + 1, by omega, by go_num, rfl⟩
          case measure => simp [intOf]; omega
        · obtain rfl : i = 8 := by omega
          have W := cut_whole s Z.out
          have W' : ((s.extract 0 (8 * 64)).toList == s.toList) = true := str_eq W
          clear W hown
          go_wp2_with fail
          refine (awake08_any _).mono ?_
          rintro e w2 ⟨rfl, hb2⟩
          go_wp2_with fail
          go_ret
          exact ⟨rfl, below_next hb1 hb1.size hb2⟩
    · have z3 : ((s.size : Int) != 512) = true := by simp; omega
      go_enter Try.func7, Try.ntmps7
      go_wp2_with fail
      refine (cut_none s _ z3).mono ?_
      rintro e w1 ⟨rfl, rfl⟩
      go_wp2_with fail
      refine (awake08_any _).mono ?_
      rintro e w2 ⟨rfl, hb2⟩
      go_wp2_with fail
      go_ret
      exact ⟨rfl, hb2⟩

set_option maxHeartbeats 1000000 in
theorem pagePacks_walk (kind no : Int) (room : ByteArray) (w : World) (k1 : -9223372036854775808 ≤ kind) (k2 : kind ≤ 9223372036854775807) (n1 : -9223372036854775808 ≤ no) (n2 : no ≤ 9223372036854775807) (hs0 : room.size ≤ 140737488351232) :
    Calls Try.prog 3 #[.int .i64 kind, .int .i64 no, .string room] w fun e w' => e = .returned (.bool true) ∧ Below w.heap.size w w' := by
  by_cases hbig : 5000 < room.size
  · go_enter Try.func3, Try.ntmps3
    go_wp2_with fail
    refine (awake08_any _).mono ?_
    rintro e w1 ⟨rfl, hb1⟩
    go_wp2_with fail
    go_ret
    exact ⟨rfl, hb1⟩
  · cases ha : pgArg kind no
    · go_enter Try.func3, Try.ntmps3
      go_wp2_with fail
      refine (pack_arg kind no room _ ha).mono ?_
      rintro e w1 ⟨rfl, rfl⟩
      go_wp2_with fail
      refine (refPack_arg kind no room _ ha).mono ?_
      rintro e w1 ⟨rfl, rfl⟩
      go_wp2_with fail
      refine (awake08_any _).mono ?_
      rintro e w1 ⟨rfl, hb1⟩
      go_wp2_with fail
      go_ret
      exact ⟨rfl, hb1⟩
    · by_cases hr : room.size ≤ 496
      · go_enter Try.func3, Try.ntmps3
        go_wp2_with fail
        refine (pack_any kind no room _ ha hr).mono ?_
        rintro e w1 ⟨rfl, hb1⟩
        go_wp2_with fail
        refine (refPack_any kind no room _ ha hr).mono ?_
        rintro e w2 ⟨rfl, hb2⟩
        go_wp2_with fail
        refine (awake08_any _).mono ?_
        rintro e w3 ⟨rfl, hb3⟩
        go_wp2_with fail
        go_ret
        exact ⟨rfl, below_next (below_next hb1 hb1.size hb2) (Nat.le_trans hb1.size hb2.size) hb3⟩
      · have hr' : 496 < room.size := by omega
        go_enter Try.func3, Try.ntmps3
        go_wp2_with fail
        refine (pack_large kind no room _ ha hr').mono ?_
        rintro e w1 ⟨rfl, rfl⟩
        go_wp2_with fail
        refine (refPack_large kind no room _ ha hr').mono ?_
        rintro e w1 ⟨rfl, rfl⟩
        go_wp2_with fail
        refine (awake08_any _).mono ?_
        rintro e w1 ⟨rfl, hb1⟩
        go_wp2_with fail
        go_ret
        exact ⟨rfl, hb1⟩

end Go.Proofs.Yteiomhojflianaa
