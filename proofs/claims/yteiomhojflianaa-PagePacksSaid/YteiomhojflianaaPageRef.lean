/- The contracts of the reference of layer 8. -/
import Derived.Test.YteiomhojflianaaPage
import Derived.Test.YteiomhojflianaaCrcRef
import Derived.Deep.RegionWith
import Derived.Deep.DeepCutAuto
import Derived.BigRegion
namespace Go.Proofs.Yteiomhojflianaa
open Go.RowKit
set_option linter.unusedVariables false

set_option maxHeartbeats 1000000 in
theorem refPack_arg (kind no : Int) (room : ByteArray) (w : World) (h : pgArg kind no = false) :
    Calls Try.prog 11 #[.int .i64 kind, .int .i64 no, .string room] w fun e w' => e = .returned (.tuple #[.string ⟨#[]⟩, .int .i64 1]) ∧ w = w' := by
  rcases pgArg_no kind no h with h | ⟨h1, h⟩ | ⟨h1, h2, h⟩ | ⟨h1, h2, h3, h⟩
  all_goals
    go_enter Try.func11, Try.ntmps11
    go_wp2_with fail
    go_ret2
    exact ⟨rfl, rfl⟩

set_option maxHeartbeats 1000000 in
theorem refPack_large (kind no : Int) (room : ByteArray) (w : World) (h : pgArg kind no = true) (hr : 496 < room.size) :
    Calls Try.prog 11 #[.int .i64 kind, .int .i64 no, .string room] w fun e w' => e = .returned (.tuple #[.string ⟨#[]⟩, .int .i64 3]) ∧ w = w' := by
  obtain ⟨h1, h2, h3, h4⟩ := pgArg_yes kind no h
  clear h
  go_enter Try.func11, Try.ntmps11
  go_wp2_with fail
  go_ret2
  exact ⟨rfl, rfl⟩

theorem conv_nul (w : World) (B g n : Nat) (h : w.ownsRow B 5 1 (.slice (some ⟨g, 0, none⟩) n n) n (madeCells (Value.int .u8 0).cells (n * 1)).toList) :
    (convert 46 9 (.slice (some ⟨g, 0, none⟩) n n)).run Try.prog w = .ok (.string (S (nul n))) w := by
  have h1 := toList_madeCells_one (Value.int .u8 0) n
  have h2 : (Value.int .u8 0).cells = #[Value.int .u8 0] := rfl
  rw [h2, Nat.mul_one, h1] at h
  have hc := run_convert_bytes_back (P := Try.prog) w 46 9 5 ⟨g, 0, none⟩ n (nul n) Try.underlying46 Try.underlying5 Try.underlying9 (by
    intro t ht
    rw [nul_length] at ht
    have : (⟨g, 0, none⟩ : Addr).add t = ⟨g, t, none⟩ := by unfold Addr.add; split <;> simp_all
    rw [this, h.cellAt t (by omega)]
    simp [nul, ht])
  rw [nul_length] at hc
  exact hc

set_option maxHeartbeats 400000 in
/-- 'string(make([]byte, n))'. -/
theorem noughts_any (n : Int) (w : World) (h0 : 0 ≤ n) (hn : n ≤ 1000000) :
    Calls Try.prog 23 #[.int .i64 n] w fun e w' => e = .returned (.string (S (nul n.toNat))) ∧ Below w.heap.size w w' := by
  obtain ⟨n, rfl⟩ := Int.eq_ofNat_of_zero_le h0
  rw [Int.toNat_natCast]
  obtain ⟨i0, hi, hz0, hz1, hz2⟩ := info_parts Try.infoByte
  go_enter Try.func23, Try.ntmps23
  go_wp2_with (at_make; refine wpList_make_full _ rfl (.tmp 3) (.tmp 3) 46 rfl w.heap.size 5 i0 (.int .u8 0) 1 Try.underlying46 hi hz0 hz1 .i64 .i64 n n n rfl rfl rfl rfl (by rw [hz2]; omega) (by unfold maxLen; omega) (Nat.le_refl _) ?_; intro w1 hown hgr; have hv := conv_nul _ _ _ _ hown)
  go_ret
  exact ⟨rfl, (Below.refl _ _).grown hgr (Nat.le_refl _) (by intro k h; cases h)⟩

theorem leB_one (x : Int) (h0 : 0 ≤ x) (h1 : x ≤ 255) : leB x 1 = [UInt8.ofNat x.toNat] := by
  have : x % 256 = x := by omega
  simp [leB, byteAt, List.range_succ, this]
/-- 'string([]byte{x})', wherever the slice lies. -/
theorem conv_one (x : Int) (h0 : 0 ≤ x) (h1 : x ≤ 255) (W : World) (g : Nat) (hc : W.cell? ⟨g, 0, none⟩ = some (.int .u8 x)) :
    (convert 46 9 (.slice (some ⟨g, 0, none⟩) 1 1)).run Try.prog W = .ok (.string (S (leB x 1))) W := by
  rw [leB_one x h0 h1]
  refine run_convert_bytes_back (P := Try.prog) _ 46 9 5 ⟨g, 0, none⟩ 1 [UInt8.ofNat x.toNat] Try.underlying46 Try.underlying5 Try.underlying9 ?_
  intro j hj
  obtain rfl : j = 0 := by simp at hj; omega
  have hm : x.toNat % 256 = x.toNat := by omega
  have : (x.toNat : Int) = x := by omega
  simp [Addr.add, hc, hm, this]

theorem cell_keep {W w' : World} {B : Nat} (hB : B = W.heap.size) (hb : Below B W w') (v : Value) : ∀ g, W.cell? ⟨g, 0, none⟩ = some v → w'.cell? ⟨g, 0, none⟩ = some v := by
  intro g hg
  subst hB
  have hlt : g < W.heap.size := by
    rcases Nat.lt_or_ge g W.heap.size with h | h
    · exact h
    · simp [World.cell?, Array.getElem?_eq_none h] at hg
  exact (hb.cell (p := ⟨g, 0, none⟩) hlt).trans hg
theorem cell_new_drew (w : World) (v : Value) (t : TypeId) : (w.alloc (.cells #[v] t)).drew.cell? ⟨w.heap.size, 0, none⟩ = some v := cell_new w v t

set_option maxHeartbeats 20000000 in
theorem refPack_any (kind no : Int) (room : ByteArray) (w : World) (h : pgArg kind no = true) (hr : room.size ≤ 496) :
    Calls Try.prog 11 #[.int .i64 kind, .int .i64 no, .string room] w fun e w' => e = .returned (.tuple #[.string (pgStr kind no room), .int .i64 0]) ∧ Below w.heap.size w w' := by
  obtain ⟨h1, h2, h3, h4⟩ := pgArg_yes kind no h
  clear h
  have u1 : IntKind.u8.wrap kind = kind := by rw [IntKind.wrap_u8]; omega
  have u3 : IntKind.i64.wrap (496 - (room.size : Int)) = 496 - (room.size : Int) := by rw [IntKind.wrap_i64]; omega
  have hcv := conv_one kind (by omega) (by omega)
  have u2 := u64_int no (by omega) (by omega)
  have z1 : (S (leB kind 1)).size ≤ 1 := by rw [S_size, leB_length]; omega
  have z2 : (S (leB no 4)).size ≤ 4 := by rw [S_size, leB_length]; omega
  have z3 : (S (nul (496 - room.size))).size ≤ 496 := by rw [S_size, nul_length]; omega
  have z4 : (S (nul 7)).size ≤ 7 := by rw [S_size, nul_length]; omega
  go_enter Try.func11, Try.ntmps11
  have T : S (leB kind 1) ++ S (leB no 4) ++ S (nul 7) ++ room ++ S (nul (496 - room.size)) = pgBody kind no room := by
    unfold pgBody; rw [S_append, S_append, S_append_s, S_append]
  have TT := Lib.hid T
  clear T
  have c1 := fun w => refPut_any no 4 w (by omega) (by omega) (by omega)
  go_upto_region 5 with (fail)
  go_cut [8] (fun s8 wx => s8 = .string (pgBody kind no room) ∧ Below w.heap.size w wx)
  case first =>
    go_region_with (first
      | (go_at_call 22; refine (c1 _).mono ?_; rintro e w1 ⟨rfl, hb1⟩; have kk := cell_keep rfl hb1 (.int .u8 kind); (first | (with_reducible have cc := kk _ (cell_new_drew _ (.int .u8 kind) 5)) | (with_reducible have cc := kk _ (cell_new _ (.int .u8 kind) 5)) | (with_reducible have cc := kk _ (by assumption)) | skip); clear kk)
      | (go_at_call 23; refine (noughts_any _ _ (by omega) (by omega)).mono ?_; rintro e w2 ⟨rfl, hb2⟩; have kk := cell_keep rfl hb2 (.int .u8 kind); (first | (with_reducible have cc := kk _ (cell_new_drew _ (.int .u8 kind) 5)) | (with_reducible have cc := kk _ (cell_new _ (.int .u8 kind) 5)) | (with_reducible have cc := kk _ (by assumption)) | skip); clear kk))
    all_goals (go_wp2_with fail; go_meet; refine ⟨?_, ?_⟩; (first | rfl | (rw [TT.out]) | (rw [TT.out]; rfl)); (repeat (first | exact Below.refl _ _ | refine below_drew ?_ | refine below_alloc ?_ | refine below_step ‹_› ?_)))
  case rest =>
    obtain ⟨rfl, hb⟩ := hcut
    have zb : (pgBody kind no room).size ≤ 508 := by rw [pgBody_size kind no room hr]; omega
    have cb := crcV_bd (pgBody kind no room)
    have u4 : IntKind.u64.wrap (crcV (pgBody kind no room)) = crcV (pgBody kind no room) := u64_int _ cb.1 (by omega)
    have z5 : (S (leB (crcV (pgBody kind no room)) 4)).size ≤ 4 := by rw [S_size, leB_length]; omega
    have T2 : S (leB (crcV (pgBody kind no room)) 4) ++ pgBody kind no room = pgStr kind no room := by unfold pgStr; rw [S_append_s]
    go_wp2_with fail
    refine (refSum_any (pgBody kind no room) _ (by omega)).mono ?_
    rintro e w5 ⟨rfl, hb5⟩
    go_wp2_with fail
    refine (refPut_any _ 4 _ (by omega) cb.1 (by omega)).mono ?_
    rintro e w6 ⟨rfl, hb6⟩
    go_wp2_with fail
    go_ret2
    exact ⟨rfl, below_step hb6 (below_step hb5 hb)⟩

end Go.Proofs.Yteiomhojflianaa
