/- The walks of the laws DiskNil and DiskLoads. -/
import Derived.Test.YteijagojagfecaaDiskAwake
namespace Go.Proofs.Yteijagojagfecaa
open Go.RowKit Go.Maps Go.Joins
set_option linter.unusedVariables false

theorem cutSu_flat (s : ByteArray) : ∀ n, n * 64 ≤ s.size → ((cutSu s n).map (·.data.toList)).flatten = s.data.toList.take (n * 64)
  | 0, _ => by simp [cutSu]
  | n + 1, h => by
    rw [← cutSu_snoc, List.map_append, List.flatten_append, cutSu_flat s n (by omega)]
    simp only [List.map_cons, List.map_nil, List.flatten_cons, List.flatten_nil, List.append_nil]
    rw [extract_cut, data_S]
    unfold cut
    rw [show (n + 1) * 64 - n * 64 = 64 by omega, show (n + 1) * 64 = n * 64 + 64 by omega, List.take_add]
theorem imgM_cut (s : ByteArray) (n : Nat) (hs : s.size = n * 64) : imgM (cutSu s n) = s := by
  unfold imgM
  rw [cutSu_flat s n (by omega), List.take_of_length_le (by rw [data_length]; omega), S_data]

set_option maxRecDepth 100000 in
set_option maxHeartbeats 4000000 in
theorem diskLoads_walk (s : ByteArray) (w : World) (hs0 : s.size ≤ 140737488351232) :
    Calls Try.prog 8 #[.string s] w fun e w' => e = .returned (.bool true) ∧ Below w.heap.size w w' := by
  by_cases hbig : 100000 < s.size
  · go_enter Try.func8, Try.ntmps8
    go_wp2_with fail
    refine (awake06_any _).mono ?_
    rintro e w1 ⟨rfl, hb1⟩
    go_wp2_with fail
    go_ret
    exact ⟨rfl, hb1⟩
  · have hle : s.size ≤ 100000 := by omega
    by_cases h0 : s.size = 0
    · have g1 : ((s.size : Int) == 0) = true := by simp [h0]
      have H := Lib.hid h0
      clear h0 hbig
      go_enter Try.func8, Try.ntmps8
      go_wp2_with fail
      refine (load_bad s _ hs0 (.inl H.out)).mono ?_
      rintro e w1 ⟨rfl, rfl⟩
      go_wp2_with fail
      refine (awake06_any _).mono ?_
      rintro e w2 ⟨rfl, hb2⟩
      go_wp2_with fail
      go_ret
      exact ⟨rfl, hb2⟩
    · have g1 : ((s.size : Int) == 0) = false := beq_eq_false_iff_ne.2 (by omega)
      rcases Nat.lt_or_ge 0 (s.size % 64) with h1 | h1
      · have g2 : ((s.size : Int) % 64 != 0) = true := by
          have : (s.size : Int) % 64 ≠ 0 := by omega
          simpa using this
        have H := Lib.hid (show s.size % 64 ≠ 0 by omega)
        clear h0 h1 hbig
        go_enter Try.func8, Try.ntmps8
        go_wp2_with fail
        refine (load_bad s _ hs0 (.inr (.inr H.out))).mono ?_
        rintro e w1 ⟨rfl, rfl⟩
        go_wp2_with fail
        refine (awake06_any _).mono ?_
        rintro e w2 ⟨rfl, hb2⟩
        go_wp2_with fail
        go_ret
        exact ⟨rfl, hb2⟩
      · have h1' : s.size % 64 = 0 := by omega
        obtain ⟨n, hn⟩ : ∃ n : Nat, s.size = n * 64 := ⟨s.size / 64, by omega⟩
        have hn1 : 1 ≤ n := by omega
        have hn2 : n ≤ 65536 := by omega
        have g2 : ((s.size : Int) % 64 != 0) = false := by
          have : (s.size : Int) % 64 = 0 := by omega
          simp [this]
        have g3 : (s.size : Int) / 64 = n := by omega
        have hok : DOk (newM (cutSu s n)) 0 := DOk.new (cutSu_size s n hn) (by rw [cutSu_length]; exact hn1) (by rw [cutSu_length]; exact hn2)
        have hlen : (newM (cutSu s n)).sure.length = n := cutSu_length s n
        have himg : imgM (newM (cutSu s n)).sure = s := imgM_cut s n hn
        have H := Lib.hid hn
        have HL := Lib.hid hlen
        have HI := Lib.hid himg
        clear h0 h1 h1' hbig hn hlen himg
        go_enter Try.func8, Try.ntmps8
        go_wp2_with fail
        refine (load_any s n _ hn1 hn2 H.out).mono ?_
        rintro e w1 ⟨d, rfl, F1, hD1, hb1, hF1⟩
        go_wp2_with fail
        refine (awake06_any _).mono ?_
        rintro e w2 ⟨rfl, hb2⟩
        have hD2 := hD1.touch (F := []) (Touch.of_below hb2) (fun _ _ h => by cases h)
        go_wp2_with fail
        refine (is_image hD2 hok).mono ?_
        rintro e w3 ⟨rfl, hb3⟩
        rw [HI.out]
        have hD3 := hD2.touch (F := []) (Touch.of_below hb3) (fun _ _ h => by cases h)
        go_wp2_with fail
        refine (is_len hD3).mono ?_
        rintro e w4 ⟨rfl, rfl⟩
        rw [HL.out]
        go_wp2_with fail
        refine (is_pending hD3).mono ?_
        rintro e w4 ⟨rfl, rfl⟩
        go_wp2_with fail
        refine (is_down hD3).mono ?_
        rintro e w4 ⟨rfl, rfl⟩
        go_wp2_with fail
        go_ret
        exact ⟨rfl, below_step hb3 (below_step hb2 hb1)⟩

/-- An act as a value. -/
def actV (b1 b2 at_ n : Int) (s : ByteArray) (a : Option Addr) (kn kc : Nat) : Value := .agg #[.int .u8 b1, .int .u8 b2, .int .i64 at_, .int .i64 n, .string s, .slice a kn kc]

set_option maxRecDepth 100000 in
set_option maxHeartbeats 4000000 in
theorem diskNil_walk (b1 b2 at_ n : Int) (s : ByteArray) (a : Option Addr) (kn kc : Nat) (w : World) (h1 : -9223372036854775808 ≤ at_) (h2 : at_ ≤ 9223372036854775807) (h3 : -9223372036854775808 ≤ n) (h4 : n ≤ 9223372036854775807) (hs0 : s.size ≤ maxLen) (hk0 : kn ≤ maxLen) :
    Calls Try.prog 7 #[actV b1 b2 at_ n s a kn kc] w fun e w' => e = .returned (.bool true) ∧ Below w.heap.size w w' := by
  unfold actV
  unfold maxLen at hs0 hk0
  by_cases hk : 1000 < kn
  · go_enter Try.func7, Try.ntmps7
    go_wp2_with fail
    refine (awake06_any _).mono ?_
    rintro e w1 ⟨rfl, hb1⟩
    go_wp2_with fail
    go_ret
    exact ⟨rfl, below_step hb1 (below_alloc (Below.refl _ _))⟩
  · by_cases hs : 1000 < s.size
    · go_enter Try.func7, Try.ntmps7
      go_wp2_with fail
      refine (awake06_any _).mono ?_
      rintro e w1 ⟨rfl, hb1⟩
      go_wp2_with fail
      go_ret
      exact ⟨rfl, below_step hb1 (below_alloc (Below.refl _ _))⟩
    · go_enter Try.func7, Try.ntmps7
      go_wp2_with fail
      refine (read_nil _ _).mono ?_
      rintro e w1 ⟨rfl, rfl⟩
      go_wp2_with fail
      refine (fuse_nil _ _).mono ?_
      rintro e w1 ⟨rfl, rfl⟩
      go_wp2_with fail
      refine (crash_nil _ _ _ _ _ _).mono ?_
      rintro e w2 ⟨rfl, hb2⟩
      go_wp2_with fail
      refine (awake06_any _).mono ?_
      rintro e w3 ⟨rfl, hb3⟩
      have l2 : w.heap.size < w2.heap.size := Nat.lt_of_lt_of_le (by simp) hb2.size
      have q2 : w3.cell? ⟨w.heap.size, 2, none⟩ = some (.int .i64 at_) := (hb3.cell (p := ⟨w.heap.size, 2, none⟩) l2).trans ((hb2.cell (p := ⟨w.heap.size, 2, none⟩) (by simp)).trans (by simp [go_sem]))
      have q4 : w3.cell? ⟨w.heap.size, 4, none⟩ = some (.string s) := (hb3.cell (p := ⟨w.heap.size, 4, none⟩) l2).trans ((hb2.cell (p := ⟨w.heap.size, 4, none⟩) (by simp)).trans (by simp [go_sem]))
      have HB := Lib.hid (below_step hb3 (below_step hb2 (below_alloc (Below.refl w.heap.size w))))
      clear hb2 hb3 l2
      go_wp2_with fail
      refine (write_nil _ _ _).mono ?_
      rintro e w4 ⟨rfl, rfl⟩
      go_wp2_with fail
      refine (flush_nil _).mono ?_
      rintro e w4 ⟨rfl, rfl⟩
      go_wp2_with fail
      refine (down_nil _).mono ?_
      rintro e w4 ⟨rfl, rfl⟩
      go_wp2_with fail
      refine (len_nil _).mono ?_
      rintro e w4 ⟨rfl, rfl⟩
      go_wp2_with fail
      refine (pending_nil _).mono ?_
      rintro e w4 ⟨rfl, rfl⟩
      go_wp2_with fail
      refine (image_nil _).mono ?_
      rintro e w4 ⟨rfl, rfl⟩
      go_wp2_with fail
      go_ret
      exact ⟨rfl, HB.out⟩

end Go.Proofs.Yteijagojagfecaa
