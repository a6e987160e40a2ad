/- The contracts of page.Pack. -/
import Derived.Test.YteiomhojflianaaDoorRepeat
import Derived.Test.YteiomhojflianaaDoorRef1
import Derived.Test.YteiomhojflianaaDoorCrc
import Derived.Test.YteiomhojflianaaDoorCrcRef
namespace Go.Proofs.YteiomhojflianaaDoor
open Go.RowKit
set_option linter.unusedVariables false

/-- What stands behind a page's sum. -/
def pgBody (kind no : Int) (room : ByteArray) : ByteArray := S (leB kind 1 ++ leB no 4 ++ nul 7 ++ room.data.toList ++ nul (496 - room.size))
/-- A page. -/
def pgStr (kind no : Int) (room : ByteArray) : ByteArray := S (leB (crcV (pgBody kind no room)) 4 ++ (pgBody kind no room).data.toList)
/-- May these be? -/
def pgArg (kind no : Int) : Bool := decide (1 ≤ kind ∧ kind ≤ 255 ∧ 0 ≤ no ∧ no ≤ 2147483647)
theorem pgBody_size (kind no : Int) (room : ByteArray) (h : room.size ≤ 496) : (pgBody kind no room).size = 508 := by
  unfold pgBody; rw [S_size]; simp only [List.length_append, leB_length, nul_length, data_length]; omega
theorem pgStr_size (kind no : Int) (room : ByteArray) (h : room.size ≤ 496) : (pgStr kind no room).size = 512 := by
  have := pgBody_size kind no room h
  unfold pgStr; rw [S_size]; simp only [List.length_append, leB_length, data_length]; omega
theorem u64_int (x : Int) (h : 0 ≤ x) (hu : x ≤ 9223372036854775807) : IntKind.u64.wrap x = x := by
  rw [IntKind.wrap_u64]; omega
/-- The four ways in which kind and number are refused. -/
theorem pgArg_no (kind no : Int) (h : pgArg kind no = false) : kind < 1 ∨ (1 ≤ kind ∧ 255 < kind) ∨ (1 ≤ kind ∧ kind ≤ 255 ∧ no < 0) ∨ (1 ≤ kind ∧ kind ≤ 255 ∧ 0 ≤ no ∧ 2147483647 < no) := by
  simp [pgArg] at h; omega
theorem pgArg_yes (kind no : Int) (h : pgArg kind no = true) : 1 ≤ kind ∧ kind ≤ 255 ∧ 0 ≤ no ∧ no ≤ 2147483647 := by
  simpa [pgArg] using h

set_option maxHeartbeats 1000000 in
theorem pack_arg (kind no : Int) (room : ByteArray) (w : World) (h : pgArg kind no = false) :
    Calls Tryd.prog 10 #[.int .i64 kind, .int .i64 no, .string room] w fun e w' => e = .returned (.tuple #[.string ⟨#[]⟩, .int .i64 1]) ∧ w = w' := by
  rcases pgArg_no kind no h with h | ⟨h1, h⟩ | ⟨h1, h2, h⟩ | ⟨h1, h2, h3, h⟩
  all_goals
    go_enter Tryd.func10, Tryd.ntmps10
    go_wp2_with fail
    go_ret2
    exact ⟨rfl, rfl⟩

set_option maxHeartbeats 1000000 in
theorem pack_large (kind no : Int) (room : ByteArray) (w : World) (h : pgArg kind no = true) (hr : 496 < room.size) :
    Calls Tryd.prog 10 #[.int .i64 kind, .int .i64 no, .string room] w fun e w' => e = .returned (.tuple #[.string ⟨#[]⟩, .int .i64 3]) ∧ w = w' := by
  obtain ⟨h1, h2, h3, h4⟩ := pgArg_yes kind no h
  clear h
  go_enter Tryd.func10, Tryd.ntmps10
  go_wp2_with fail
  go_ret2
  exact ⟨rfl, rfl⟩

set_option maxHeartbeats 1000000 in
theorem pack_any (kind no : Int) (room : ByteArray) (w : World) (h : pgArg kind no = true) (hr : room.size ≤ 496) :
    Calls Tryd.prog 10 #[.int .i64 kind, .int .i64 no, .string room] w fun e w' => e = .returned (.tuple #[.string (pgStr kind no room), .int .i64 0]) ∧ Below w.heap.size w w' := by
  obtain ⟨h1, h2, h3, h4⟩ := pgArg_yes kind no h
  clear h
  have u1 := u64_int kind (by omega) (by omega)
  have u2 := u64_int no (by omega) (by omega)
  have z1 : (S (leB kind 1)).size ≤ 1 := by rw [S_size, leB_length]; omega
  have z2 : (S (leB no 4)).size ≤ 4 := by rw [S_size, leB_length]; omega
  have z3 : (S (nul (496 - room.size))).size ≤ 496 := by rw [S_size, nul_length]; omega
  have z4 : (S (nul 7)).size ≤ 7 := by rw [S_size, nul_length]; omega
  have zb := pgBody_size kind no room hr
  have zb' : (pgBody kind no room).size ≤ 508 := by omega
  have T : S (leB kind 1) ++ S (leB no 4) ++ S (nul 7) ++ room ++ S (nul (496 - room.size)) = pgBody kind no room := by
    unfold pgBody; rw [S_append, S_append, S_append_s, S_append]
  have T2 : S (leB (crcV (pgBody kind no room)) 4) ++ pgBody kind no room = pgStr kind no room := by
    unfold pgStr; rw [S_append_s]
  have u3 := u64_int (crcV (pgBody kind no room)) (crcV_bd _).1 (by have := (crcV_bd (pgBody kind no room)).2; omega)
  have cb := crcV_bd (pgBody kind no room)
  have z5 : (S (leB (crcV (pgBody kind no room)) 4)).size ≤ 4 := by rw [S_size, leB_length]; omega
  clear zb
  go_enter Tryd.func10, Tryd.ntmps10
  go_wp2_with fail
  refine (put_any kind 1 _ (by omega) (by omega)).mono ?_
  rintro e w1 ⟨rfl, hb1⟩
  go_wp2_with fail
  refine (put_any no 4 _ (by omega) (by omega)).mono ?_
  rintro e w2 ⟨rfl, hb2⟩
  go_wp2_with fail
  refine (repeat_nul _ _ (by omega) (by omega)).mono ?_
  rintro e w3 ⟨rfl, hb3⟩
  go_wp2_with fail
  refine (repeat_nul _ _ (by omega) (by omega)).mono ?_
  rintro e w4 ⟨rfl, hb4⟩
  go_wp2_with fail
  refine (crcSum_any (pgBody kind no room) _ _ (cell_new _ _ _) (by omega)).mono ?_
  rintro e w5 ⟨rfl, rfl⟩
  go_wp2_with fail
  refine (put_any _ 4 _ (by omega) cb.1).mono ?_
  rintro e w6 ⟨rfl, hb6⟩
  go_wp2_with fail
  go_ret2
  refine ⟨rfl, ?_⟩
  have hb := below_next (below_next (below_next hb1 hb1.size hb2) (Nat.le_trans hb1.size hb2.size) hb3) (Nat.le_trans hb1.size (Nat.le_trans hb2.size hb3.size)) hb4
  have hb' := hb.alloc hb.size (.cells #[.string (pgBody kind no room)] 9)
  exact below_next hb' hb'.size hb6

end Go.Proofs.YteiomhojflianaaDoor
