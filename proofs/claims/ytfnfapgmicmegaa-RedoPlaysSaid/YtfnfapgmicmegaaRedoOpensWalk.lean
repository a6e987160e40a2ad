/- The walk of the law RedoOpens. -/
import Derived.Test.YtfnfapgmicmegaaRef9V
import Derived.Test.YtfnfapgmicmegaaRedoA
namespace Go.Proofs.Ytfnfapgmicmegaa
open Go.RowKit Go.Joins
set_option linter.unusedVariables false

theorem stF_props (m : DM) (frm size : Nat) : ∀ (f a : Nat) (q : Int), a ≤ size → (stF m frm size f a q).2 ≤ size ∧ (stF m frm size f a q).1.length ≤ size - a ∧ ∀ y ∈ (stF m frm size f a q).1, y.2.length ≤ 64
  | 0, a, q, h => ⟨h, Nat.zero_le _, fun y hy => by cases hy⟩
  | f + 1, a, q, h => by
    by_cases hc : a < size ∧ txOk m (frm + a) q (size - a) = true
    · obtain ⟨n, hn, n1, n2, n3⟩ := txOk_facts hc.2
      rw [stF_step hc.1 hc.2 hn]
      obtain ⟨i1, i2, i3⟩ := stF_props m frm size f (a + 1 + 9 * n) ((q + 1) % 18446744073709551616) (by omega)
      refine ⟨i1, by simp only [List.length_cons]; omega, fun y hy => ?_⟩
      rcases List.mem_cons.1 hy with rfl | hy
      · simp only [txPages, List.length_map, List.length_range]; exact n2
      · exact i3 y hy
    · rw [stF_end hc]
      exact ⟨h, Nat.zero_le _, fun y hy => by cases hy⟩
theorem stM_props (m : DM) (frm size : Nat) (q : Int) : (stM m frm size q).2 ≤ size ∧ (stM m frm size q).1.length ≤ size ∧ ∀ y ∈ (stM m frm size q).1, y.2.length ≤ 64 := by
  have := stF_props m frm size (size + 1) 0 q (Nat.zero_le _)
  exact ⟨this.1, by have := this.2.1; exact this, this.2.2⟩

theorem secM_cut (s : ByteArray) (n i : Nat) (hi : i < n) : secM (newM (cutSu s n)) i = s.extract (i * 64) ((i + 1) * 64) := by
  unfold secM newM cutSu
  simp [lastW, List.getD, hi]
/-- A stretch of an image. -/
theorem stIn_image (s : ByteArray) (n frm size : Nat) (hs : s.size = n * 64) (hn : n ≤ 65536) (h : frm + size ≤ n) : StIn (s.extract (64 * frm) (64 * (frm + size))) (newM (cutSu s n)) frm size := by
  refine ⟨by rw [ByteArray.size_extract]; omega, by omega, fun k hk => ?_, fun k hk => ?_⟩
  · rw [secM_cut s n (frm + k) (by omega), extract_cut, extract_cut, extract_cut, S_inj]
    unfold cut
    rw [data_S]
    apply List.ext_getElem?
    intro x
    by_cases hx : x < 64
    · rw [List.getElem?_take_of_lt (by omega), List.getElem?_drop, List.getElem?_take_of_lt (by omega), List.getElem?_drop, List.getElem?_take_of_lt (by omega), List.getElem?_drop]
      congr 1; omega
    · rw [List.getElem?_eq_none (by rw [List.length_take]; omega), List.getElem?_eq_none (by rw [List.length_take]; omega)]
  · rw [secM_cut s n (frm + k) (by omega), ByteArray.size_extract]; omega
theorem img_cut (s : ByteArray) (n : Nat) (hs : s.size = n * 64) : imgM (cutSu s n) = s := by
  unfold imgM
  rw [← S_data s, S_inj, S_data]
  apply List.ext_getElem?
  intro x
  have hL : ∀ y ∈ (cutSu s n).map (·.data.toList), y.length = 64 := by
    intro y hy
    simp only [List.mem_map] at hy
    obtain ⟨z, hz, rfl⟩ := hy
    rw [data_length, cutSu_size s n hs z hz]
  by_cases hx : x < n * 64
  · have h1 := flat_get 64 _ hL (x / 64) (x % 64) (Nat.mod_lt _ (by decide))
    rw [Nat.div_add_mod] at h1
    rw [h1, List.getElem?_map]
    unfold cutSu
    rw [List.getElem?_map, List.getElem?_range (by omega)]
    simp only [Option.map_some, Option.bind_some]
    rw [extract_cut, data_S]
    unfold cut
    rw [List.getElem?_take_of_lt (by have := Nat.mod_lt x (show 0 < 64 by decide); omega), List.getElem?_drop]
    congr 1; omega
  · rw [List.getElem?_eq_none (by rw [flat_length 64 _ hL]; simp [cutSu]; omega), List.getElem?_eq_none (by rw [data_length]; omega)]

theorem txRow_form {w : World} {base : Nat} {v : Value} {ts : List TxD} (h : TxRow w base v ts) : ∃ a c, v = .slice a ts.length c := by
  obtain ⟨vs, hrow, -⟩ := h
  rcases ownsRow_forms hrow with ⟨e, h0⟩ | ⟨g, cap, e⟩
  · exact ⟨none, 0, by rw [h0]; exact e⟩
  · exact ⟨_, _, e⟩
theorem txRowR_form {w : World} {base : Nat} {v : Value} {ts : List TxD} (h : TxRowR w base v ts) : ∃ a c, v = .slice a ts.length c := by
  obtain ⟨vs, hrow, -⟩ := h
  rcases ownsRow_forms hrow with ⟨e, h0⟩ | ⟨g, cap, e⟩
  · exact ⟨none, 0, by rw [h0]; exact e⟩
  · exact ⟨_, _, e⟩

set_option maxRecDepth 100000 in
set_option maxHeartbeats 8000000 in
theorem redoOpens_walk (s : ByteArray) (frm size q0 : Int) (w : World) (hs0 : s.size ≤ 140737488351232) (f1 : -9223372036854775808 ≤ frm) (f2 : frm ≤ 9223372036854775807) (z1 : -9223372036854775808 ≤ size) (z2 : size ≤ 9223372036854775807) (q1 : 0 ≤ q0) (q2 : q0 ≤ 18446744073709551615) :
    Calls Try.prog 4 #[.string s, .int .i64 frm, .int .i64 size, .int .u64 q0] w fun e w' => e = .returned (.bool true) ∧ Below w.heap.size w w' := by
  by_cases hbig : 30000 < s.size
  · go_enter Try.func4, Try.ntmps4
    go_wp2_with fail
    refine (awake09_any _).mono ?_
    rintro e w1 ⟨rfl, hb1⟩
    have HB1 := Lib.hid hb1
    clear hb1
    go_wp2_with fail
    refine (awake09_any _).mono ?_
    rintro e w2 ⟨rfl, hb2⟩
    go_wp2_with fail
    go_ret
    exact ⟨rfl, below_step hb2 HB1.out⟩
  · by_cases hbad : s.size = 0 ∨ 4194304 < s.size ∨ s.size % 64 ≠ 0
    · have HBAD := Lib.hid hbad
      clear hbad
      go_enter Try.func4, Try.ntmps4
      go_wp2_with fail
      refine (awake09_any _).mono ?_
      rintro e w1 ⟨rfl, hb1⟩
      have HB1 := Lib.hid hb1
      clear hb1
      go_wp2_with fail
      refine (load_bad s _ hs0 HBAD.out).mono ?_
      rintro e w2 ⟨rfl, rfl⟩
      go_wp2_with fail
      refine (open_nil frm size q0).mono ?_
      rintro e w2 ⟨rfl, rfl⟩
      go_wp2_with fail
      go_ret
      exact ⟨rfl, HB1.out⟩
    · obtain ⟨n, hn⟩ : ∃ n, s.size = n * 64 := ⟨s.size / 64, by omega⟩
      have hn1 : 1 ≤ n := by omega
      have hn2 : n ≤ 65536 := by omega
      have hlen : (newM (cutSu s n)).sure.length = n := by simp [newM, cutSu]
      have HN := Lib.hid hn
      have HLEN := Lib.hid hlen
      have hok : DOk (newM (cutSu s n)) 0 := DOk.new (cutSu_size s n hn) (by simp [cutSu]; exact hn1) (by simp [cutSu]; exact hn2)
      have HOK := Lib.hid hok
      have hs3 : s.size ≤ 30000 := by omega
      clear hbad hbig hok
      by_cases hr : frm < 0 ∨ size < 1 ∨ (n : Int) < frm ∨ (n : Int) - frm < size
      · have HR : Hid (frm < 0 ∨ size < 1 ∨ ((newM (cutSu s n)).sure.length : Int) < frm ∨ ((newM (cutSu s n)).sure.length : Int) - frm < size) := Lib.hid (by rw [hlen]; exact hr)
        by_cases r1 : frm < 0
        · clear hr hn hlen
          go_enter Try.func4, Try.ntmps4
          go_wp2_with fail
          refine (awake09_any _).mono ?_
          rintro e w1 ⟨rfl, hb1⟩
          have HB1 := Lib.hid hb1
          clear hb1
          go_wp2_with fail
          refine (load_any s n _ hn1 hn2 HN.out).mono ?_
          rintro e w2 ⟨d, rfl, F, hD, hb2, hF⟩
          have HD := Lib.hid hD
          have HB2 := Lib.hid (below_step hb2 HB1.out)
          clear hD hb2 hF
          go_wp2_with fail
          refine (open_bad HD.out (by rw [HLEN.out]; exact hn2) frm size q0 f1 f2 z1 z2 HR.out).mono ?_
          rintro e w3 ⟨rfl, rfl⟩
          go_wp2_with fail
          go_ret
          exact ⟨rfl, HB2.out⟩
        · by_cases r2 : size < 1
          · clear hr hn hlen
            go_enter Try.func4, Try.ntmps4
            go_wp2_with fail
            refine (awake09_any _).mono ?_
            rintro e w1 ⟨rfl, hb1⟩
            have HB1 := Lib.hid hb1
            clear hb1
            go_wp2_with fail
            refine (load_any s n _ hn1 hn2 HN.out).mono ?_
            rintro e w2 ⟨d, rfl, F, hD, hb2, hF⟩
            have HD := Lib.hid hD
            have HB2 := Lib.hid (below_step hb2 HB1.out)
            clear hD hb2 hF
            go_wp2_with fail
            refine (open_bad HD.out (by rw [HLEN.out]; exact hn2) frm size q0 f1 f2 z1 z2 HR.out).mono ?_
            rintro e w3 ⟨rfl, rfl⟩
            go_wp2_with fail
            go_ret
            exact ⟨rfl, HB2.out⟩
          · have HIL := fun (w : World) (d : Nat) (F : List Nat) (h : IsDisk w d F (newM (cutSu s n))) => Lib.hid (by have := is_len h; rwa [HLEN.out] at this : Calls Try.prog 15 #[.pointer (some ⟨d, 0, none⟩)] w fun e w' => e = .returned (.int .i64 n) ∧ w = w')
            by_cases r3 : (n : Int) < frm
            · clear hr hn hlen
              go_enter Try.func4, Try.ntmps4
              go_wp2_with fail
              refine (awake09_any _).mono ?_
              rintro e w1 ⟨rfl, hb1⟩
              have HB1 := Lib.hid hb1
              clear hb1
              go_wp2_with fail
              refine (load_any s n _ hn1 hn2 HN.out).mono ?_
              rintro e w2 ⟨d, rfl, F, hD, hb2, hF⟩
              have HD := Lib.hid hD
              have HB2 := Lib.hid (below_step hb2 HB1.out)
              clear hD hb2 hF
              go_wp2_with fail
              refine (open_bad HD.out (by rw [HLEN.out]; exact hn2) frm size q0 f1 f2 z1 z2 HR.out).mono ?_
              rintro e w3 ⟨rfl, rfl⟩
              go_wp2_with fail
              refine (HIL _ _ _ HD.out).out.mono ?_
              rintro e w3 ⟨rfl, rfl⟩
              go_wp2_with fail
              go_ret
              exact ⟨rfl, HB2.out⟩
            · have r4 : (n : Int) - frm < size := by omega
              clear hr hn hlen
              go_enter Try.func4, Try.ntmps4
              go_wp2_with fail
              refine (awake09_any _).mono ?_
              rintro e w1 ⟨rfl, hb1⟩
              have HB1 := Lib.hid hb1
              clear hb1
              go_wp2_with fail
              refine (load_any s n _ hn1 hn2 HN.out).mono ?_
              rintro e w2 ⟨d, rfl, F, hD, hb2, hF⟩
              have HD := Lib.hid hD
              have HB2 := Lib.hid (below_step hb2 HB1.out)
              clear hD hb2 hF
              go_wp2_with fail
              refine (open_bad HD.out (by rw [HLEN.out]; exact hn2) frm size q0 f1 f2 z1 z2 HR.out).mono ?_
              rintro e w3 ⟨rfl, rfl⟩
              go_wp2_with fail
              refine (HIL _ _ _ HD.out).out.mono ?_
              rintro e w3 ⟨rfl, rfl⟩
              go_wp2_with fail
              refine (HIL _ _ _ HD.out).out.mono ?_
              rintro e w3 ⟨rfl, rfl⟩
              go_wp2_with fail
              go_ret
              exact ⟨rfl, HB2.out⟩
      · have HIL := fun (w : World) (d : Nat) (F : List Nat) (h : IsDisk w d F (newM (cutSu s n))) => Lib.hid (by have := is_len h; rwa [HLEN.out] at this : Calls Try.prog 15 #[.pointer (some ⟨d, 0, none⟩)] w fun e w' => e = .returned (.int .i64 n) ∧ w = w')
        obtain ⟨fr, rfl⟩ := Int.eq_ofNat_of_zero_le (show 0 ≤ frm by omega)
        obtain ⟨sz, rfl⟩ := Int.eq_ofNat_of_zero_le (show 0 ≤ size by omega)
        have hsz1 : 1 ≤ sz := by omega
        have hfit : fr + sz ≤ n := by omega
        have t1 : ¬ ((fr : Int) < 0) := by omega
        have t2 : ¬ ((sz : Int) < 1) := by omega
        have t3 : (fr : Int) ≤ (n : Int) := by omega
        have t4 : (sz : Int) ≤ (n : Int) - (fr : Int) := by omega
        have sb1 : 64 * fr ≤ 64 * (fr + sz) := by omega
        have sb2 : 64 * (fr + sz) ≤ s.size := by omega
        have hin := stIn_image s n fr sz hn hn2 hfit
        have himg : imgM (newM (cutSu s n)).sure = s := img_cut s n hn
        have HIN := Lib.hid hin
        have HIMG := Lib.hid himg
        obtain ⟨p1, p2, p3⟩ := stM_props (newM (cutSu s n)) fr sz q0
        have HOPEN := fun (w : World) (d : Nat) (F : List Nat) (h : IsDisk w d F (newM (cutSu s n))) => Lib.hid (open_up h rfl HOK.out fr sz q0 hsz1 (by rw [HLEN.out]; exact hfit) q1 q2)
        have HST := fun (w : World) => Lib.hid (stands_any (w := w) HIN.out q0 q1 q2)
        unfold OpenPost at HOPEN
        unfold StdPost at HST
        generalize hR : stM (newM (cutSu s n)) fr sz q0 = R at p1 p2 p3 HOPEN HST
        obtain ⟨T, A⟩ := R
        simp only at p1 p2 p3 HOPEN HST
        obtain ⟨r, hrr⟩ : ∃ r : Nat, r = sz - A := ⟨_, rfl⟩
        obtain ⟨nx, hnx⟩ : ∃ nx : Int, nx = (q0 + T.length) % 18446744073709551616 := ⟨_, rfl⟩
        have y0 : (sz : Int) - (A : Int) = (r : Int) := by omega
        have y1 : IntKind.u64.wrap (T.length : Int) = (T.length : Int) := by rw [IntKind.wrap_u64]; omega
        have y2 : IntKind.u64.wrap (q0 + (T.length : Int)) = nx := by rw [IntKind.wrap_u64, hnx]
        rw [← hnx] at HOPEN
        have HRR := Lib.hid hrr
        have P1 := Lib.hid p1
        have P3 := Lib.hid p3
        have ss := str_eq (rfl : s = s)
        clear hr hn hlen hin himg hR hrr hnx p1 p3
        go_enter Try.func4, Try.ntmps4
        go_wp2_with fail
        refine (awake09_any _).mono ?_
        rintro e w1 ⟨rfl, hb1⟩
        have HB1 := Lib.hid hb1
        clear hb1
        go_wp2_with fail
        refine (load_any s n _ hn1 hn2 HN.out).mono ?_
        rintro e w2 ⟨d, rfl, F, hD, hb2, hF⟩
        have HD := Lib.hid hD
        have HB2 := Lib.hid (below_step hb2 HB1.out)
        clear hD hb2 hF
        go_wp2_with fail
        refine (HOPEN _ _ _ HD.out).out.mono ?_
        rintro e w3 ⟨v, rfl, hl, hrow, hb3⟩
        have hD3 := HD.out.below hb3
        obtain ⟨a, c, rfl⟩ := txRow_form hrow
        have HL := Lib.hid hl
        have HROW := Lib.hid hrow
        have HD3 := Lib.hid hD3
        have HB3 := Lib.hid (below_step hb3 HB2.out)
        have hw23 := hb3.size
        have hlt3 := hl.lt
        clear hl hrow hD3 hb3
        go_wp2_with fail
        refine (HIL _ _ _ HD3.out).out.mono ?_
        rintro e w4 ⟨rfl, rfl⟩
        go_wp2_with fail
        refine (HIL _ _ _ HD3.out).out.mono ?_
        rintro e w4 ⟨rfl, rfl⟩
        go_wp2_with fail
        refine (HST _).out.mono ?_
        rintro e w4 ⟨v2, rfl, hrow2, hb4⟩
        obtain ⟨a2, c2, rfl⟩ := txRowR_form hrow2
        have HROW2 := Lib.hid hrow2
        have HB34 := Lib.hid hb4
        have HB4 := Lib.hid (below_step hb4 HB3.out)
        have hrow4 := HROW.out.below hb4
        have HROW4 := Lib.hid hrow4
        clear hrow2 hrow4 hb4
        go_wp2_with fail
        refine (plain_any HROW4.out rfl (by omega) (by have := HB34.out.size; omega)).mono ?_
        rintro e w5 ⟨a5, c5, rfl, hrow5, hb5⟩
        have HROW5 := Lib.hid hrow5
        have HROW25 := Lib.hid (HROW2.out.below hb5)
        have HB35 := Lib.hid (below_step hb5 HB34.out)
        have HB5 := Lib.hid (below_step hb5 HB4.out)
        clear hrow5 hb5
        go_wp2_with fail
        refine (same_any HROW5.out HROW25.out rfl (by omega) (fun y hy => by have := P3.out y hy; omega)).mono ?_
        rintro e w6 ⟨rfl, hd6⟩
        have HB36 := Lib.hid (below_step hd6.below HB35.out)
        have HB6 := Lib.hid (below_step hd6.below HB5.out)
        clear hd6
        have HLEFT := Lib.hid (left_any (HL.out.below HB36.out) P1.out (by show sz ≤ 1000000; omega) rfl)
        simp only at HLEFT
        rw [← HRR.out] at HLEFT
        go_wp2_with fail
        refine HLEFT.out.mono ?_
        rintro e w7 ⟨rfl, hd7⟩
        have HB37 := Lib.hid (below_step hd7.below HB36.out)
        have HB7 := Lib.hid (below_step hd7.below HB6.out)
        clear hd7
        have HNEXT := Lib.hid (next_any (HL.out.below HB37.out))
        simp only at HNEXT
        go_wp2_with fail
        refine HNEXT.out.mono ?_
        rintro e w8 ⟨rfl, rfl⟩
        have HIMA := Lib.hid (is_image (HD3.out.below HB37.out) HOK.out)
        go_wp2_with fail
        refine HIMA.out.mono ?_
        rintro e w8 ⟨rfl, hb8⟩
        rw [HIMG.out]
        have HPEN := Lib.hid (is_pending (HD3.out.below (below_step hb8 HB37.out)))
        have HB8 := Lib.hid (below_step hb8 HB7.out)
        clear hb8
        go_wp2_with fail
        refine HPEN.out.mono ?_
        rintro e w9 ⟨rfl, rfl⟩
        go_wp2_with fail
        go_ret
        exact ⟨rfl, HB8.out⟩

end Go.Proofs.Ytfnfapgmicmegaa
