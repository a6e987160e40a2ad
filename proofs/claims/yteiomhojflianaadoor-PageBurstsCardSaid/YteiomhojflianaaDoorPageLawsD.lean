/- The walks of the laws PageNumbers, PageReads and PageBack. -/
import Derived.Test.YteiomhojflianaaDoorPageUnRef
namespace Go.Proofs.YteiomhojflianaaDoor
open Go.RowKit
set_option linter.unusedVariables false

/-- The document's example. -/
def pg12 : ByteArray := pgStr 1 2 ⟨#[120]⟩
theorem pg12_size : pg12.size = 512 := pgStr_size 1 2 ⟨#[120]⟩ (by decide)
theorem pg12_at (i : Nat) (h : i < pg12.size) : (pg12[i]'h).toNat = (pg12.data.toList[i]?.getD 0).toNat := by
  have : pg12.data.toList[i]? = some (pg12[i]'h) := by
    rw [List.getElem?_eq_getElem (by simpa using h)]; rfl
  rw [this]; rfl
theorem pg12_list : pg12.data.toList = leB (crcV (pgBody 1 2 ⟨#[120]⟩)) 4 ++ (leB 1 1 ++ leB 2 4 ++ nul 7 ++ [120] ++ nul 495) := by
  unfold pg12 pgStr; rw [data_S]; rfl
theorem pg12_back (j : Nat) : pg12.data.toList[4 + j]? = (leB 1 1 ++ leB 2 4 ++ nul 7 ++ [120] ++ nul 495)[j]? := by
  rw [pg12_list, List.getElem?_append_right (by rw [leB_length]; omega), leB_length]; congr 1; omega
theorem pg12_4 (h : 4 < pg12.size) : (pg12[4]'h).toNat = 1 := by rw [pg12_at, pg12_back 0]; rfl
theorem pg12_5 (h : 5 < pg12.size) : (pg12[5]'h).toNat = 2 := by rw [pg12_at, pg12_back 1]; rfl
theorem pg12_16 (h : 16 < pg12.size) : (pg12[16]'h).toNat = 120 := by rw [pg12_at, pg12_back 12]; rfl

set_option maxHeartbeats 400000 in
theorem awake08_any (w : World) : Calls Tryd.prog 7 #[] w fun e w' => e = .returned (.bool true) ∧ Below w.heap.size w w' := by
  have h1 := pg12_size
  have h2 := pg12_4
  have h3 := pg12_5
  have h4 := pg12_16
  go_enter Tryd.func7, Tryd.ntmps7
  go_wp2_with fail
  refine (pack_any 1 2 ⟨#[120]⟩ _ (by decide) (by decide)).mono ?_
  rintro e w1 ⟨rfl, hb1⟩
  have e0 : pgStr 1 2 ⟨#[120]⟩ = pg12 := rfl
  rw [e0]
  clear e0
  go_wp2_with fail
  go_ret
  exact ⟨rfl, hb1⟩

theorem unpack_bad (s : ByteArray) (no : Int) (w : World) (h : pgE s ≠ 0) :
    Calls Tryd.prog 11 #[.string s, .int .i64 no] w fun e w' => e = .returned (.tuple #[.int .i64 0, .string ⟨#[]⟩, .int .i64 (pgE s)]) ∧ Below w.heap.size w w' := by
  have e0 : unE s no = pgE s := by unfold unE; rw [if_neg h]
  have := unpack_any s no w
  unfold unK unR at this
  rw [e0, if_neg h, if_neg h] at this
  exact this
theorem unpack_other (s : ByteArray) (no : Int) (w : World) (h : pgE s = 0) (hn : pgN s ≠ no) :
    Calls Tryd.prog 11 #[.string s, .int .i64 no] w fun e w' => e = .returned (.tuple #[.int .i64 0, .string ⟨#[]⟩, .int .i64 13]) ∧ Below w.heap.size w w' := by
  have e0 : unE s no = 13 := by unfold unE; rw [if_pos h, if_neg hn]
  have := unpack_any s no w
  unfold unK unR at this
  rw [e0, if_neg (by decide), if_neg (by decide)] at this
  exact this
theorem unpack_ok (s : ByteArray) (no : Int) (w : World) (h : pgE s = 0) (hn : pgN s = no) :
    Calls Tryd.prog 11 #[.string s, .int .i64 no] w fun e w' => e = .returned (.tuple #[.int .i64 (pgK s), .string (s.extract 16 512), .int .i64 0]) ∧ Below w.heap.size w w' := by
  have e0 : unE s no = 0 := by unfold unE; rw [if_pos h, if_pos hn]
  have := unpack_any s no w
  unfold unK unR at this
  rw [e0, if_pos rfl, if_pos rfl] at this
  exact this
theorem number_ok (s : ByteArray) (w : World) (h : pgE s = 0) :
    Calls Tryd.prog 8 #[.string s] w fun e w' => e = .returned (.tuple #[.int .i64 (pgN s), .int .i64 0]) ∧ Below w.heap.size w w' := by
  have := number_any s w
  rwa [h] at this
theorem refUn_good (s : ByteArray) (w : World) (h : pgE s = 0) :
    Calls Tryd.prog 9 #[.string s] w fun e w' => e = .returned (.tuple #[.int .i64 (pgK s), .int .i64 (pgN s), .string (s.extract 16 512), .int .i64 0]) ∧ Below w.heap.size w w' := by
  have := refUn_any s w
  rwa [h, if_pos rfl] at this
theorem refUn_none (s : ByteArray) (w : World) (h : pgE s ≠ 0) :
    Calls Tryd.prog 9 #[.string s] w fun e w' => e = .returned (.tuple #[.int .i64 0, .int .i64 0, .string ⟨#[]⟩, .int .i64 (pgE s)]) ∧ Below w.heap.size w w' := by
  have := refUn_any s w
  unfold pgK pgN at this
  rwa [if_neg h, if_neg h, if_neg h] at this
theorem number_none (s : ByteArray) (w : World) (h : pgE s ≠ 0) :
    Calls Tryd.prog 8 #[.string s] w fun e w' => e = .returned (.tuple #[.int .i64 0, .int .i64 (pgE s)]) ∧ Below w.heap.size w w' := by
  have := number_any s w
  unfold pgN at this
  rwa [if_neg h] at this

set_option maxHeartbeats 1000000 in
theorem pageNumbers_walk (s : ByteArray) (w : World) (hs0 : s.size ≤ 140737488351232) :
    Calls Tryd.prog 3 #[.string s] w fun e w' => e = .returned (.bool true) ∧ Below w.heap.size w w' := by
  by_cases hbig : 5000 < s.size
  · go_enter Tryd.func3, Tryd.ntmps3
    go_wp2_with fail
    refine (awake08_any _).mono ?_
    rintro e w1 ⟨rfl, hb1⟩
    go_wp2_with fail
    go_ret
    exact ⟨rfl, hb1⟩
  · by_cases h : pgE s = 0
    · have H := Lib.hid h
      clear h
      go_enter Tryd.func3, Tryd.ntmps3
      go_wp2_with fail
      refine (number_ok s _ H.out).mono ?_
      rintro e w1 ⟨rfl, hb1⟩
      go_wp2_with fail
      refine (refUn_good s _ H.out).mono ?_
      rintro e w2 ⟨rfl, hb2⟩
      go_wp2_with fail
      refine (awake08_any _).mono ?_
      rintro e w3 ⟨rfl, hb3⟩
      go_wp2_with fail
      go_ret
      exact ⟨rfl, below_step hb3 (below_step hb2 hb1)⟩
    · have H := Lib.hid h
      clear h
      go_enter Tryd.func3, Tryd.ntmps3
      go_wp2_with fail
      refine (number_none s _ H.out).mono ?_
      rintro e w1 ⟨rfl, hb1⟩
      go_wp2_with fail
      refine (refUn_none s _ H.out).mono ?_
      rintro e w2 ⟨rfl, hb2⟩
      go_wp2_with fail
      refine (awake08_any _).mono ?_
      rintro e w3 ⟨rfl, hb3⟩
      go_wp2_with fail
      go_ret
      exact ⟨rfl, below_step hb3 (below_step hb2 hb1)⟩

set_option maxRecDepth 100000 in
set_option maxHeartbeats 2000000 in
theorem pageReads_walk (s : ByteArray) (no : Int) (w : World) (hs0 : s.size ≤ 140737488351232) (n1 : -9223372036854775808 ≤ no) (n2 : no ≤ 9223372036854775807) :
    Calls Tryd.prog 6 #[.string s, .int .i64 no] w fun e w' => e = .returned (.bool true) ∧ Below w.heap.size w w' := by
  by_cases hbig : 5000 < s.size
  · go_enter Tryd.func6, Tryd.ntmps6
    go_wp2_with fail
    refine (awake08_any _).mono ?_
    rintro e w1 ⟨rfl, hb1⟩
    go_wp2_with fail
    go_ret
    exact ⟨rfl, hb1⟩
  · by_cases h : pgE s = 0
    · have H := Lib.hid h
      by_cases hn : pgN s = no
      · have d1 : (pgN s != pgN s) = false := by simp
        have HN := Lib.hid hn
        have d2 : (pgN s != no) = false := by rw [hn]; simp
        have st := str_eq (rfl : s.extract 16 512 = s.extract 16 512)
        clear hn h
        go_enter Tryd.func6, Tryd.ntmps6
        go_wp2_with fail
        refine (unpack_ok s no _ H.out HN.out).mono ?_
        rintro e w1 ⟨rfl, hb1⟩
        go_wp2_with fail
        refine (number_ok s _ H.out).mono ?_
        rintro e w2 ⟨rfl, hb2⟩
        go_wp2_with fail
        refine (refUn_good s _ H.out).mono ?_
        rintro e w3 ⟨rfl, hb3⟩
        go_wp2_with fail
        refine (awake08_any _).mono ?_
        rintro e w4 ⟨rfl, hb4⟩
        go_wp2_with fail
        go_ret
        exact ⟨rfl, below_step hb4 (below_step hb3 (below_step hb2 hb1))⟩
      · have d1 : (pgN s != pgN s) = false := by simp
        have HN := Lib.hid hn
        have d2 := u64_ne hn
        clear hn h
        go_enter Tryd.func6, Tryd.ntmps6
        go_wp2_with fail
        refine (unpack_other s no _ H.out HN.out).mono ?_
        rintro e w1 ⟨rfl, hb1⟩
        go_wp2_with fail
        refine (number_ok s _ H.out).mono ?_
        rintro e w2 ⟨rfl, hb2⟩
        go_wp2_with fail
        refine (refUn_good s _ H.out).mono ?_
        rintro e w3 ⟨rfl, hb3⟩
        go_wp2_with fail
        refine (awake08_any _).mono ?_
        rintro e w4 ⟨rfl, hb4⟩
        go_wp2_with fail
        go_ret
        exact ⟨rfl, below_step hb4 (below_step hb3 (below_step hb2 hb1))⟩
    · have H := Lib.hid h
      have d1 : (pgE s != pgE s) = false := by simp
      have d2 := u64_ne h
      clear h
      go_enter Tryd.func6, Tryd.ntmps6
      go_wp2_with fail
      refine (unpack_bad s no _ H.out).mono ?_
      rintro e w1 ⟨rfl, hb1⟩
      go_wp2_with fail
      refine (number_none s _ H.out).mono ?_
      rintro e w2 ⟨rfl, hb2⟩
      go_wp2_with fail
      refine (refUn_none s _ H.out).mono ?_
      rintro e w3 ⟨rfl, hb3⟩
      go_wp2_with fail
      refine (awake08_any _).mono ?_
      rintro e w4 ⟨rfl, hb4⟩
      go_wp2_with fail
      go_ret
      exact ⟨rfl, below_step hb4 (below_step hb3 (below_step hb2 hb1))⟩

/-! What was packed. -/
theorem cut_S (l : List UInt8) (a k : Nat) : cut (S l) a k = (l.drop a).take k := by unfold cut; rw [data_S]
/-- The parts of a page. -/
theorem pgStr_list (kind no : Int) (room : ByteArray) : (pgStr kind no room).data.toList = leB (crcV (pgBody kind no room)) 4 ++ (leB kind 1 ++ (leB no 4 ++ (nul 7 ++ (room.data.toList ++ nul (496 - room.size))))) := by
  unfold pgStr; rw [data_S]; unfold pgBody; rw [data_S]; simp only [List.append_assoc]
theorem cut_list (s : ByteArray) {a b c : List UInt8} (h : s.data.toList = a ++ (b ++ c)) : cut s a.length b.length = b := by
  unfold cut; rw [h, List.drop_left' rfl, List.take_left' rfl]
theorem pack_cut0 (kind no : Int) (room : ByteArray) : cut (pgStr kind no room) 0 4 = leB (crcV (pgBody kind no room)) 4 := by
  unfold cut
  rw [pgStr_list, List.drop_zero, List.take_left' (leB_length _ _)]
theorem pack_cut4 (kind no : Int) (room : ByteArray) : cut (pgStr kind no room) 4 1 = leB kind 1 := by
  have := cut_list (pgStr kind no room) (pgStr_list kind no room)
  rwa [leB_length, leB_length] at this
theorem pack_cut5 (kind no : Int) (room : ByteArray) : cut (pgStr kind no room) 5 4 = leB no 4 := by
  have h := pgStr_list kind no room
  rw [← List.append_assoc] at h
  have := cut_list (pgStr kind no room) h
  rwa [List.length_append, leB_length, leB_length, leB_length] at this
theorem pack_cut9 (kind no : Int) (room : ByteArray) : cut (pgStr kind no room) 9 7 = nul 7 := by
  have h := pgStr_list kind no room
  rw [← List.append_assoc, ← List.append_assoc] at h
  have := cut_list (pgStr kind no room) h
  rwa [List.length_append, List.length_append, leB_length, leB_length, leB_length, nul_length] at this
theorem pack_room (kind no : Int) (room : ByteArray) (hr : room.size ≤ 496) : (pgStr kind no room).extract 16 512 = S (room.data.toList ++ nul (496 - room.size)) := by
  have h := pgStr_list kind no room
  rw [← List.append_assoc, ← List.append_assoc, ← List.append_assoc] at h
  rw [extract_cut]
  unfold cut
  rw [h, List.drop_left' (by simp only [List.length_append, leB_length, nul_length]), List.take_of_length_le]
  simp only [List.length_append, nul_length, data_length]; omega
theorem pack_rest (kind no : Int) (room : ByteArray) (hr : room.size ≤ 496) : (pgStr kind no room).extract 4 512 = pgBody kind no room := by
  have h := pgStr_list kind no room
  rw [extract_cut]
  unfold cut
  rw [h, List.drop_left' (leB_length _ _), List.take_of_length_le]
  · unfold pgBody; simp only [List.append_assoc]
  · simp only [List.length_append, nul_length, data_length, leB_length]; omega
theorem leN_one (x : Int) (h0 : 0 ≤ x) (h1 : x ≤ 255) : leN (leB x 1) = x := by rw [leN_leB 1 x h0]; omega
theorem leN_four (x : Int) (h0 : 0 ≤ x) (h1 : x ≤ 4294967295) : leN (leB x 4) = x := by rw [leN_leB 4 x h0]; omega
theorem pack_E (kind no : Int) (room : ByteArray) (h : pgArg kind no = true) (hr : room.size ≤ 496) : pgE (pgStr kind no room) = 0 := by
  obtain ⟨h1, h2, h3, h4⟩ := pgArg_yes kind no h
  have hb := crcV_bd (pgBody kind no room)
  refine pgE_ok (pgStr_size kind no room hr) ?_ ?_ ?_ (pack_cut9 _ _ _)
  · rw [pack_cut0, pack_rest _ _ _ hr, leN_four _ hb.1 hb.2]
  · rw [pack_cut4, leN_one _ (by omega) h2]; omega
  · rw [pack_cut5, leN_four _ h3 (by omega)]; omega
theorem pack_K (kind no : Int) (room : ByteArray) (h : pgArg kind no = true) (hr : room.size ≤ 496) : pgK (pgStr kind no room) = kind := by
  obtain ⟨h1, h2, h3, h4⟩ := pgArg_yes kind no h
  unfold pgK; rw [if_pos (pack_E kind no room h hr), pack_cut4, leN_one _ (by omega) h2]
theorem pack_N (kind no : Int) (room : ByteArray) (h : pgArg kind no = true) (hr : room.size ≤ 496) : pgN (pgStr kind no room) = no := by
  obtain ⟨h1, h2, h3, h4⟩ := pgArg_yes kind no h
  unfold pgN; rw [if_pos (pack_E kind no room h hr), pack_cut5, leN_four _ h3 (by omega)]
/-- The room of a page, by name. -/
def pgRoom (room : ByteArray) : ByteArray := S (room.data.toList ++ nul (496 - room.size))
theorem pgRoom_size (room : ByteArray) (hr : room.size ≤ 496) : (pgRoom room).size = 496 := by
  unfold pgRoom; rw [S_size]; simp only [List.length_append, nul_length, data_length]; omega
theorem pgRoom_text (room : ByteArray) : (pgRoom room).extract 0 room.size = room := by
  unfold pgRoom
  rw [extract_cut, cut_S, List.drop_zero, Nat.sub_zero, List.take_left' (data_length room), S_data]
theorem unpack_packed (kind no : Int) (room : ByteArray) (w : World) (h : pgArg kind no = true) (hr : room.size ≤ 496) :
    Calls Tryd.prog 11 #[.string (pgStr kind no room), .int .i64 no] w fun e w' => e = .returned (.tuple #[.int .i64 kind, .string (pgRoom room), .int .i64 0]) ∧ Below w.heap.size w w' := by
  have := unpack_ok (pgStr kind no room) no w (pack_E _ _ _ h hr) (pack_N _ _ _ h hr)
  rwa [pack_K _ _ _ h hr, pack_room _ _ _ hr] at this
theorem unpack_packed' (kind no other : Int) (room : ByteArray) (w : World) (h : pgArg kind no = true) (hr : room.size ≤ 496) (hn : other ≠ no) :
    Calls Tryd.prog 11 #[.string (pgStr kind no room), .int .i64 other] w fun e w' => e = .returned (.tuple #[.int .i64 0, .string ⟨#[]⟩, .int .i64 13]) ∧ Below w.heap.size w w' :=
  unpack_other (pgStr kind no room) other w (pack_E _ _ _ h hr) (by rw [pack_N _ _ _ h hr]; exact fun e => hn e.symm)
theorem number_packed (kind no : Int) (room : ByteArray) (w : World) (h : pgArg kind no = true) (hr : room.size ≤ 496) :
    Calls Tryd.prog 8 #[.string (pgStr kind no room)] w fun e w' => e = .returned (.tuple #[.int .i64 no, .int .i64 0]) ∧ Below w.heap.size w w' := by
  have := number_ok (pgStr kind no room) w (pack_E _ _ _ h hr)
  rwa [pack_N _ _ _ h hr] at this

set_option maxRecDepth 100000 in
set_option maxHeartbeats 2000000 in
theorem pageBack_walk (kind no : Int) (room : ByteArray) (other : Int) (w : World) (k1 : -9223372036854775808 ≤ kind) (k2 : kind ≤ 9223372036854775807) (n1 : -9223372036854775808 ≤ no) (n2 : no ≤ 9223372036854775807) (hs0 : room.size ≤ 140737488351232) (o1 : -9223372036854775808 ≤ other) (o2 : other ≤ 9223372036854775807) :
    Calls Tryd.prog 5 #[.int .i64 kind, .int .i64 no, .string room, .int .i64 other] w fun e w' => e = .returned (.bool true) ∧ Below w.heap.size w w' := by
  cases ha : pgArg kind no
  · go_enter Tryd.func5, Tryd.ntmps5
    go_wp2_with fail
    refine (pack_arg kind no room _ ha).mono ?_
    rintro e w1 ⟨rfl, rfl⟩
    go_wp2_with fail
    refine (awake08_any _).mono ?_
    rintro e w1 ⟨rfl, hb1⟩
    go_wp2_with fail
    go_ret
    exact ⟨rfl, hb1⟩
  · by_cases hr : room.size ≤ 496
    · have hrz := pgRoom_size room hr
      have hrz1 : 496 ≤ (pgRoom room).size := by omega
      have hrz2 : (pgRoom room).size ≤ 496 := by omega
      have d1 : (((pgRoom room).size : Int) != 496) = false := by rw [hrz]; rfl
      have d2 : (kind != kind) = false := by simp
      have d3 : (no != no) = false := by simp
      have d4 : room.size ≤ (pgRoom room).size := by omega
      have tx := Lib.hid (pgRoom_text room)
      have st := str_eq (rfl : room = room)
      have HA := Lib.hid ha
      clear hrz ha
      by_cases ho : other = no
      · subst ho
        go_enter Tryd.func5, Tryd.ntmps5
        go_wp2_with fail
        refine (pack_any kind other room _ HA.out hr).mono ?_
        rintro e w1 ⟨rfl, hb1⟩
        go_wp2_with fail
        refine (unpack_packed kind other room _ HA.out hr).mono ?_
        rintro e w2 ⟨rfl, hb2⟩
        go_wp2_with fail
        refine (number_packed kind other room _ HA.out hr).mono ?_
        rintro e w3 ⟨rfl, hb3⟩
        have te := str_eq tx.out
        go_wp2_with fail
        refine (unpack_packed kind other room _ HA.out hr).mono ?_
        rintro e w4 ⟨rfl, hb4⟩
        go_wp2_with fail
        refine (awake08_any _).mono ?_
        rintro e w5 ⟨rfl, hb5⟩
        go_wp2_with fail
        go_ret
        exact ⟨rfl, below_step hb5 (below_step hb4 (below_step hb3 (below_step hb2 hb1)))⟩
      · have e1 : (other == no) = false := by simpa using ho
        have HO := Lib.hid ho
        clear ho
        go_enter Tryd.func5, Tryd.ntmps5
        go_wp2_with fail
        refine (pack_any kind no room _ HA.out hr).mono ?_
        rintro e w1 ⟨rfl, hb1⟩
        go_wp2_with fail
        refine (unpack_packed kind no room _ HA.out hr).mono ?_
        rintro e w2 ⟨rfl, hb2⟩
        go_wp2_with fail
        refine (number_packed kind no room _ HA.out hr).mono ?_
        rintro e w3 ⟨rfl, hb3⟩
        have te := str_eq tx.out
        go_wp2_with fail
        refine (unpack_packed' kind no other room _ HA.out hr HO.out).mono ?_
        rintro e w4 ⟨rfl, hb4⟩
        go_wp2_with fail
        refine (awake08_any _).mono ?_
        rintro e w5 ⟨rfl, hb5⟩
        go_wp2_with fail
        go_ret
        exact ⟨rfl, below_step hb5 (below_step hb4 (below_step hb3 (below_step hb2 hb1)))⟩
    · have hr' : 496 < room.size := by omega
      go_enter Tryd.func5, Tryd.ntmps5
      go_wp2_with fail
      refine (pack_large kind no room _ ha hr').mono ?_
      rintro e w1 ⟨rfl, rfl⟩
      go_wp2_with fail
      refine (awake08_any _).mono ?_
      rintro e w1 ⟨rfl, hb1⟩
      go_wp2_with fail
      go_ret
      exact ⟨rfl, hb1⟩

end Go.Proofs.YteiomhojflianaaDoor
