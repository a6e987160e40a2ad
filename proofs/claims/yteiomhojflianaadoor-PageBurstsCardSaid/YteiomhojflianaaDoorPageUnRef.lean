/- The contract of the reference's Unpack. -/
import Derived.Test.YteiomhojflianaaDoorPageUn
import Derived.Deep.RegionWith
import Derived.Deep.DeepCutAuto
import Derived.BigRegion
namespace Go.Proofs.YteiomhojflianaaDoor
open Go.RowKit
set_option linter.unusedVariables false

theorem conv_nul (w : World) (B g n : Nat) (h : w.ownsRow B 5 1 (.slice (some ⟨g, 0, none⟩) n n) n (madeCells (Value.int .u8 0).cells (n * 1)).toList) :
    (convert 33 9 (.slice (some ⟨g, 0, none⟩) n n)).run Tryd.prog w = .ok (.string (S (nul n))) w := by
  have h1 := toList_madeCells_one (Value.int .u8 0) n
  have h2 : (Value.int .u8 0).cells = #[Value.int .u8 0] := rfl
  rw [h2, Nat.mul_one, h1] at h
  have hc := run_convert_bytes_back (P := Tryd.prog) w 33 9 5 ⟨g, 0, none⟩ n (nul n) Tryd.underlying33 Tryd.underlying5 Tryd.underlying9 (by
    intro t ht
    rw [nul_length] at ht
    have : (⟨g, 0, none⟩ : Addr).add t = ⟨g, t, none⟩ := by unfold Addr.add; split <;> simp_all
    rw [this, h.cellAt t (by omega)]
    simp [nul, ht])
  rw [nul_length] at hc
  exact hc

set_option maxHeartbeats 400000 in
/-- 'string(make([]byte, n))'. -/
theorem noughts_any (n : Int) (w : World) (h0 : 0 ≤ n) (hn : n ≤ 1000000) :
    Calls Tryd.prog 16 #[.int .i64 n] w fun e w' => e = .returned (.string (S (nul n.toNat))) ∧ Below w.heap.size w w' := by
  obtain ⟨n, rfl⟩ := Int.eq_ofNat_of_zero_le h0
  rw [Int.toNat_natCast]
  obtain ⟨i0, hi, hz0, hz1, hz2⟩ := info_parts Tryd.infoByte
  go_enter Tryd.func16, Tryd.ntmps16
  go_wp2_with (at_make; refine wpList_make_full _ rfl (.tmp 3) (.tmp 3) 33 rfl w.heap.size 5 i0 (.int .u8 0) 1 Tryd.underlying33 hi hz0 hz1 .i64 .i64 n n n rfl rfl rfl rfl (by rw [hz2]; omega) (by unfold maxLen; omega) (Nat.le_refl _) ?_; intro w1 hown hgr; have hv := conv_nul _ _ _ _ hown)
  go_ret
  exact ⟨rfl, (Below.refl _ _).grown hgr (Nat.le_refl _) (by intro k h; cases h)⟩

/-- The sum as four bytes, and the bytes that stand there. -/
theorem sum_bytes (s : ByteArray) (h : s.size = 512) : leN (cut s 0 4) = crcV (s.extract 4 512) ↔ S (leB (crcV (s.extract 4 512)) 4) = s.extract 0 4 := by
  have hb := crcV_bd (s.extract 4 512)
  rw [extract_cut s 0 4, S_inj]
  constructor
  · intro e
    apply leN_inj
    · rw [leB_length, cut_length s 0 (4 - 0) (by omega)]
    · rw [leN_leB 4 _ hb.1, e]; omega
  · intro e
    have := congrArg leN e
    rw [leN_leB 4 _ hb.1] at this
    show leN (cut s 0 (4 - 0)) = _
    rw [← this]; omega
theorem byte4 (s : ByteArray) (h : s.size = 512) (h4 : 4 < s.size) : leN (cut s 4 1) = (s[4].toNat : Int) := by
  rw [cut_cons s 4 0 h4]; simp [cut, leN]
theorem mid_bytes (s : ByteArray) : cut s 9 7 = nul 7 ↔ s.extract 9 16 = S (nul 7) := by
  rw [extract_cut, S_inj]

set_option maxRecDepth 100000 in
set_option maxHeartbeats 1000000 in
theorem refUn_size (s : ByteArray) (w : World) (h : ((s.size : Int) != 512) = true) :
    Calls Tryd.prog 9 #[.string s] w fun e w' => e = .returned (.tuple #[.int .i64 0, .int .i64 0, .string ⟨#[]⟩, .int .i64 2]) ∧ Below w.heap.size w w' := by
  go_enter Tryd.func9, Tryd.ntmps9
  go_wp2_with fail
  refine bodyPost_ret (results_tmp4 rfl _ _ _) rfl ?_
  exact ⟨rfl, Below.refl _ _⟩

set_option maxRecDepth 100000 in
set_option maxHeartbeats 2000000 in
theorem refUn_sum (s : ByteArray) (w : World) (h : s.size = 512) (h1 : leN (cut s 0 4) ≠ crcV (s.extract 4 512)) :
    Calls Tryd.prog 9 #[.string s] w fun e w' => e = .returned (.tuple #[.int .i64 0, .int .i64 0, .string ⟨#[]⟩, .int .i64 12]) ∧ Below w.heap.size w w' := by
  have d1 : ((s.size : Int) != 512) = false := by rw [h]; rfl
  have d2 := str_ne (fun e => h1 ((sum_bytes s h).2 e))
  have hb := crcV_bd (s.extract 4 512)
  have hle : 512 ≤ s.size := by omega
  have hle' : s.size ≤ 512 := by omega
  have hz : (s.extract 4 512).size ≤ 9223372036854775807 := by rw [ByteArray.size_extract]; omega
  have u1 := u64_int (crcV (s.extract 4 512)) hb.1 (by omega)
  clear h1
  have H := Lib.hid h
  clear h
  go_enter Tryd.func9, Tryd.ntmps9
  go_wp2_with fail
  go_region_with (first
    | (go_at_call 14; rw [H.out]; refine (refSum_any (s.extract 4 512) _ hz).mono ?_; rintro e w1 ⟨rfl, hb1⟩)
    | (go_at_call 13; refine (refPut_any (crcV (s.extract 4 512)) 4 _ (by omega) (by omega) (by omega)).mono ?_; rintro e w2 ⟨rfl, hb2⟩))
  all_goals
    go_wp2_with fail
    refine bodyPost_ret (results_tmp4 rfl _ _ _) rfl ?_
    exact ⟨rfl, by (repeat (first | exact Below.refl _ _ | refine below_drew ?_ | refine below_alloc ?_ | refine below_step ‹_› ?_))⟩

theorem get5 (s : ByteArray) (h : s.size = 512) : leN (cut (s.extract 5 9) 0 (s.extract 5 9).size) = leN (cut s 5 4) := by
  have : cut (s.extract 5 9) 0 (s.extract 5 9).size = cut s 5 4 := by
    have hz : (s.extract 5 9).size = 4 := by rw [ByteArray.size_extract]; omega
    rw [hz, extract_cut]
    unfold cut
    rw [data_S, List.drop_zero, List.take_take]
    rfl
  rw [this]

set_option maxRecDepth 100000 in
set_option maxHeartbeats 4000000 in
theorem refUn_kind (s : ByteArray) (w : World) (h : s.size = 512) (h1 : leN (cut s 0 4) = crcV (s.extract 4 512)) (h2 : leN (cut s 4 1) = 0) :
    Calls Tryd.prog 9 #[.string s] w fun e w' => e = .returned (.tuple #[.int .i64 0, .int .i64 0, .string ⟨#[]⟩, .int .i64 2]) ∧ Below w.heap.size w w' := by
  have d1 : ((s.size : Int) != 512) = false := by rw [h]; rfl
  have d2 := str_eq ((sum_bytes s h).1 h1)
  have hb := crcV_bd (s.extract 4 512)
  have hle : 512 ≤ s.size := by omega
  have hle' : s.size ≤ 512 := by omega
  have h4lt : 4 < s.size := by omega
  have i1 : (4 : Int) < (s.size : Int) := by omega
  have i2 : (16 : Int) ≤ (s.size : Int) := by omega
  have i3 : (0 : Int) ≤ 4 := by decide
  have hz : (s.extract 4 512).size ≤ 9223372036854775807 := by rw [ByteArray.size_extract]; omega
  have hz9 : (s.extract 5 9).size ≤ 8 := by rw [ByteArray.size_extract]; omega
  have u1 := u64_int (crcV (s.extract 4 512)) hb.1 (by omega)
  have b4 := cut_bd4 s 5
  have X5 := Lib.hid (get5 s h)
  have B4 := Lib.hid (byte4 s h h4lt)
  have H := Lib.hid h
  clear h h1
  have g1 : ((s[4].toNat : Int) == 0) = true := by rw [← B4.out, h2]; rfl
  clear h2
  go_enter Tryd.func9, Tryd.ntmps9
  go_upto_region 3 with (fail)
  go_cut [17] (fun s17 wx => s17 = .bool false ∧ Below w.heap.size w wx)
  case first =>
    go_region_with (first
      | (go_at_call 14; rw [H.out]; refine (refSum_any (s.extract 4 512) _ hz).mono ?_; rintro e w1 ⟨rfl, hb1⟩)
      | (go_at_call 13; refine (refPut_any (crcV (s.extract 4 512)) 4 _ (by omega) (by omega) (by omega)).mono ?_; rintro e w2 ⟨rfl, hb2⟩))
    all_goals (go_wp2_with fail; go_meet; refine ⟨?_, ?_⟩; (first | rfl | (simp; done)); (repeat (first | exact Below.refl _ _ | refine below_drew ?_ | refine below_alloc ?_ | refine below_step ‹_› ?_)))
  case rest =>
  obtain ⟨rfl, hbb⟩ := hcut
  clear d2
  go_wp2_with fail
  refine (refGet_any (s.extract 5 9) _ hz9).mono ?_
  rintro e w1 ⟨rfl, rfl⟩
  rw [X5.out]
  go_wp2_with fail
  go_quiet (fail)
  go_wp2_with fail
  refine bodyPost_ret (results_tmp4 rfl _ _ _) rfl ?_
  exact ⟨rfl, below_drewN hbb _⟩

set_option maxRecDepth 100000 in
set_option maxHeartbeats 4000000 in
theorem refUn_no (s : ByteArray) (w : World) (h : s.size = 512) (h1 : leN (cut s 0 4) = crcV (s.extract 4 512)) (h2 : leN (cut s 4 1) ≠ 0) (h3 : 2147483647 < leN (cut s 5 4)) :
    Calls Tryd.prog 9 #[.string s] w fun e w' => e = .returned (.tuple #[.int .i64 0, .int .i64 0, .string ⟨#[]⟩, .int .i64 2]) ∧ Below w.heap.size w w' := by
  have d1 : ((s.size : Int) != 512) = false := by rw [h]; rfl
  have d2 := str_eq ((sum_bytes s h).1 h1)
  have hb := crcV_bd (s.extract 4 512)
  have hle : 512 ≤ s.size := by omega
  have hle' : s.size ≤ 512 := by omega
  have h4lt : 4 < s.size := by omega
  have i1 : (4 : Int) < (s.size : Int) := by omega
  have i2 : (16 : Int) ≤ (s.size : Int) := by omega
  have i3 : (0 : Int) ≤ 4 := by decide
  have hz : (s.extract 4 512).size ≤ 9223372036854775807 := by rw [ByteArray.size_extract]; omega
  have hz9 : (s.extract 5 9).size ≤ 8 := by rw [ByteArray.size_extract]; omega
  have u1 := u64_int (crcV (s.extract 4 512)) hb.1 (by omega)
  have b4 := cut_bd4 s 5
  have X5 := Lib.hid (get5 s h)
  have B4 := Lib.hid (byte4 s h h4lt)
  have H := Lib.hid h
  clear h h1
  have g1 : ((s[4].toNat : Int) == 0) = false := by rw [← B4.out]; simpa using h2
  have g2 : decide (2147483647 < leN (cut s 5 4)) = true := by simpa using h3
  clear h2
  go_enter Tryd.func9, Tryd.ntmps9
  go_upto_region 3 with (fail)
  go_cut [17] (fun s17 wx => s17 = .bool false ∧ Below w.heap.size w wx)
  case first =>
    go_region_with (first
      | (go_at_call 14; rw [H.out]; refine (refSum_any (s.extract 4 512) _ hz).mono ?_; rintro e w1 ⟨rfl, hb1⟩)
      | (go_at_call 13; refine (refPut_any (crcV (s.extract 4 512)) 4 _ (by omega) (by omega) (by omega)).mono ?_; rintro e w2 ⟨rfl, hb2⟩))
    all_goals (go_wp2_with fail; go_meet; refine ⟨?_, ?_⟩; (first | rfl | (simp; done)); (repeat (first | exact Below.refl _ _ | refine below_drew ?_ | refine below_alloc ?_ | refine below_step ‹_› ?_)))
  case rest =>
  obtain ⟨rfl, hbb⟩ := hcut
  clear d2
  go_wp2_with fail
  refine (refGet_any (s.extract 5 9) _ hz9).mono ?_
  rintro e w1 ⟨rfl, rfl⟩
  rw [X5.out]
  go_wp2_with fail
  go_quiet (fail)
  go_wp2_with fail
  refine bodyPost_ret (results_tmp4 rfl _ _ _) rfl ?_
  exact ⟨rfl, below_drewN hbb _⟩

set_option maxRecDepth 100000 in
set_option maxHeartbeats 4000000 in
theorem refUn_mid (s : ByteArray) (w : World) (h : s.size = 512) (h1 : leN (cut s 0 4) = crcV (s.extract 4 512)) (h2 : leN (cut s 4 1) ≠ 0) (h3 : leN (cut s 5 4) ≤ 2147483647) (h5 : cut s 9 7 ≠ nul 7) :
    Calls Tryd.prog 9 #[.string s] w fun e w' => e = .returned (.tuple #[.int .i64 0, .int .i64 0, .string ⟨#[]⟩, .int .i64 2]) ∧ Below w.heap.size w w' := by
  have d1 : ((s.size : Int) != 512) = false := by rw [h]; rfl
  have d2 := str_eq ((sum_bytes s h).1 h1)
  have hb := crcV_bd (s.extract 4 512)
  have hle : 512 ≤ s.size := by omega
  have hle' : s.size ≤ 512 := by omega
  have h4lt : 4 < s.size := by omega
  have i1 : (4 : Int) < (s.size : Int) := by omega
  have i2 : (16 : Int) ≤ (s.size : Int) := by omega
  have i3 : (0 : Int) ≤ 4 := by decide
  have hz : (s.extract 4 512).size ≤ 9223372036854775807 := by rw [ByteArray.size_extract]; omega
  have hz9 : (s.extract 5 9).size ≤ 8 := by rw [ByteArray.size_extract]; omega
  have u1 := u64_int (crcV (s.extract 4 512)) hb.1 (by omega)
  have b4 := cut_bd4 s 5
  have X5 := Lib.hid (get5 s h)
  have B4 := Lib.hid (byte4 s h h4lt)
  have H := Lib.hid h
  clear h h1
  have g1 : ((s[4].toNat : Int) == 0) = false := by rw [← B4.out]; simpa using h2
  have g2 : decide (2147483647 < leN (cut s 5 4)) = false := by simpa using h3
  have g3 := str_ne (fun e => h5 ((mid_bytes s).2 e))
  clear h2 h5
  go_enter Tryd.func9, Tryd.ntmps9
  go_upto_region 3 with (fail)
  go_cut [17] (fun s17 wx => s17 = .bool false ∧ Below w.heap.size w wx)
  case first =>
    go_region_with (first
      | (go_at_call 14; rw [H.out]; refine (refSum_any (s.extract 4 512) _ hz).mono ?_; rintro e w1 ⟨rfl, hb1⟩)
      | (go_at_call 13; refine (refPut_any (crcV (s.extract 4 512)) 4 _ (by omega) (by omega) (by omega)).mono ?_; rintro e w2 ⟨rfl, hb2⟩))
    all_goals (go_wp2_with fail; go_meet; refine ⟨?_, ?_⟩; (first | rfl | (simp; done)); (repeat (first | exact Below.refl _ _ | refine below_drew ?_ | refine below_alloc ?_ | refine below_step ‹_› ?_)))
  case rest =>
  obtain ⟨rfl, hbb⟩ := hcut
  clear d2
  go_wp2_with fail
  refine (refGet_any (s.extract 5 9) _ hz9).mono ?_
  rintro e w1 ⟨rfl, rfl⟩
  rw [X5.out]
  go_wp2_with fail
  go_region_with ((go_at_call 16; refine (noughts_any _ _ (by omega) (by omega)).mono ?_; rintro e w2 ⟨rfl, hb2⟩))
  all_goals
    go_wp2_with fail
    refine bodyPost_ret (results_tmp4 rfl _ _ _) rfl ?_
    exact ⟨rfl, (by (repeat (first | exact Below.refl _ _ | refine below_drewN ?_ _ | refine below_drew ?_ | refine below_alloc ?_ | refine below_step ‹_› ?_ | assumption)))⟩

set_option maxRecDepth 100000 in
set_option maxHeartbeats 4000000 in
theorem refUn_ok (s : ByteArray) (w : World) (h : s.size = 512) (h1 : leN (cut s 0 4) = crcV (s.extract 4 512)) (h2 : leN (cut s 4 1) ≠ 0) (h3 : leN (cut s 5 4) ≤ 2147483647) (h5 : cut s 9 7 = nul 7) :
    Calls Tryd.prog 9 #[.string s] w fun e w' => e = .returned (.tuple #[.int .i64 (leN (cut s 4 1)), .int .i64 (leN (cut s 5 4)), .string (s.extract 16 512), .int .i64 0]) ∧ Below w.heap.size w w' := by
  have d1 : ((s.size : Int) != 512) = false := by rw [h]; rfl
  have d2 := str_eq ((sum_bytes s h).1 h1)
  have hb := crcV_bd (s.extract 4 512)
  have hle : 512 ≤ s.size := by omega
  have hle' : s.size ≤ 512 := by omega
  have h4lt : 4 < s.size := by omega
  have i1 : (4 : Int) < (s.size : Int) := by omega
  have i2 : (16 : Int) ≤ (s.size : Int) := by omega
  have i3 : (0 : Int) ≤ 4 := by decide
  have hz : (s.extract 4 512).size ≤ 9223372036854775807 := by rw [ByteArray.size_extract]; omega
  have hz9 : (s.extract 5 9).size ≤ 8 := by rw [ByteArray.size_extract]; omega
  have u1 := u64_int (crcV (s.extract 4 512)) hb.1 (by omega)
  have b4 := cut_bd4 s 5
  have X5 := Lib.hid (get5 s h)
  have B4 := Lib.hid (byte4 s h h4lt)
  have H := Lib.hid h
  clear h h1
  have g1 : ((s[4].toNat : Int) == 0) = false := by rw [← B4.out]; simpa using h2
  have g2 : decide (2147483647 < leN (cut s 5 4)) = false := by simpa using h3
  have g3 := str_eq ((mid_bytes s).1 h5)
  have u8 : IntKind.i64.wrap (s[4].toNat : Int) = (s[4].toNat : Int) := by rw [IntKind.wrap_i64]; have := s[4].toNat_lt; omega
  have u9 : IntKind.i64.wrap (leN (cut s 5 4)) = leN (cut s 5 4) := by rw [IntKind.wrap_i64]; omega
  clear h2 h5
  go_enter Tryd.func9, Tryd.ntmps9
  go_upto_region 3 with (fail)
  go_cut [17] (fun s17 wx => s17 = .bool false ∧ Below w.heap.size w wx)
  case first =>
    go_region_with (first
      | (go_at_call 14; rw [H.out]; refine (refSum_any (s.extract 4 512) _ hz).mono ?_; rintro e w1 ⟨rfl, hb1⟩)
      | (go_at_call 13; refine (refPut_any (crcV (s.extract 4 512)) 4 _ (by omega) (by omega) (by omega)).mono ?_; rintro e w2 ⟨rfl, hb2⟩))
    all_goals (go_wp2_with fail; go_meet; refine ⟨?_, ?_⟩; (first | rfl | (simp; done)); (repeat (first | exact Below.refl _ _ | refine below_drew ?_ | refine below_alloc ?_ | refine below_step ‹_› ?_)))
  case rest =>
  obtain ⟨rfl, hbb⟩ := hcut
  clear d2
  go_wp2_with fail
  refine (refGet_any (s.extract 5 9) _ hz9).mono ?_
  rintro e w1 ⟨rfl, rfl⟩
  rw [X5.out]
  go_wp2_with fail
  go_upto_region 6 with (fail)
  go_cut [33] (fun s33 wx => s33 = .bool false ∧ Below w.heap.size w wx)
  case first =>
    go_region_with ((go_at_call 16; refine (noughts_any _ _ (by omega) (by omega)).mono ?_; rintro e w2 ⟨rfl, hb2⟩))
    all_goals (go_wp2_with fail; go_meet; refine ⟨?_, ?_⟩; (first | rfl | (simp; done)); (repeat (first | exact Below.refl _ _ | refine below_drewN ?_ _ | refine below_drew ?_ | refine below_alloc ?_ | refine below_step ‹_› ?_ | assumption)))
  case rest =>
  obtain ⟨rfl, hbc⟩ := hcut
  clear g1 g2 g3
  go_wp2_with fail
  go_quiet (fail)
  go_wp2_with fail
  refine bodyPost_ret (results_tmp4 rfl _ _ _) rfl ?_
  exact ⟨by rw [B4.out]; simp [H.out], below_drewN hbc _⟩

/-- The reference's Unpack at any bytes. -/
theorem refUn_any (s : ByteArray) (w : World) :
    Calls Tryd.prog 9 #[.string s] w fun e w' => e = .returned (.tuple #[.int .i64 (pgK s), .int .i64 (pgN s), .string (if pgE s = 0 then s.extract 16 512 else ⟨#[]⟩), .int .i64 (pgE s)]) ∧ Below w.heap.size w w' := by
  unfold pgK pgN
  by_cases h : s.size = 512
  · by_cases h1 : leN (cut s 0 4) = crcV (s.extract 4 512)
    · by_cases h2 : leN (cut s 4 1) = 0
      · rw [pgE_bad h h1 (.inl h2)]; exact refUn_kind s w h h1 h2
      · by_cases h3 : leN (cut s 5 4) ≤ 2147483647
        · by_cases h4 : cut s 9 7 = nul 7
          · rw [pgE_ok h h1 h2 h3 h4]; exact refUn_ok s w h h1 h2 h3 h4
          · rw [pgE_bad h h1 (.inr (.inr h4))]; exact refUn_mid s w h h1 h2 h3 h4
        · rw [pgE_bad h h1 (.inr (.inl (by omega)))]; exact refUn_no s w h h1 h2 (by omega)
    · rw [pgE_sum h h1]; exact refUn_sum s w h h1
  · rw [pgE_size h]; exact refUn_size s w (by simp; omega)

end Go.Proofs.YteiomhojflianaaDoor
