/- The walks of the laws SlotGets and SlotReads. -/
import Derived.Test.YteijagojagfecaaSlotPlainWalk
namespace Go.Proofs.Yteijagojagfecaa
open Go.RowKit Go.Joins
set_option linter.unusedVariables false

set_option maxRecDepth 100000 in
set_option maxHeartbeats 3200000 in
theorem slotGets_walk {w : World} (room : ByteArray) (i : Int) (hz : room.size ≤ 140737488351232) (h1 : -9223372036854775808 ≤ i) (h2 : i ≤ 9223372036854775807) :
    Calls Try.prog 9 #[.string room, .int .i64 i] w fun e w' => e = .returned (.bool true) ∧ Below w.heap.size w w' := by
  by_cases hbig : 2000 < room.size
  · have b1 : (2000 : Int) < room.size := by omega
    go_enter Try.func9, Try.ntmps9
    go_wp2_with fail
    refine (awake12_any _).mono ?_
    rintro e w1 ⟨rfl, hb1⟩
    have HB1 := Lib.hid hb1
    clear hb1
    go_wp2_with fail
    refine (awake12_any _).mono ?_
    rintro e w2 ⟨rfl, hb2⟩
    have HB2 := Lib.hid (below_step hb2 HB1.out)
    clear hb2
    go_wp2_with fail
    go_ret
    exact ⟨rfl, HB2.out⟩
  · have b1 : (room.size : Int) ≤ 2000 := by omega
    go_enter Try.func9, Try.ntmps9
    go_wp2_with fail
    refine (awake12_any _).mono ?_
    rintro e w1 ⟨rfl, hb1⟩
    have HB1 := Lib.hid hb1
    clear hb1
    go_wp2_with fail
    refine (getS_any room i _ (by omega) h1 h2).mono ?_
    rintro e w2 ⟨rfl, hb2⟩
    have HB2 := Lib.hid (below_step hb2 HB1.out)
    clear hb2
    go_wp2_with fail
    refine (rread12_any room _ (by omega)).mono ?_
    rintro e w3 ⟨hb3, hr⟩
    have HB3 := Lib.hid (below_step hb3 HB2.out)
    clear hb3
    cases hm : readM room with
    | none =>
      rw [hm] at hr
      obtain ⟨a, n, c, rfl⟩ := hr
      have F := Lib.hid (show getM room i = (⟨#[]⟩, 2) by simp [getM, hm])
      clear hm
      rw [F.out]
      go_wp2_with fail
      go_ret
      exact ⟨rfl, HB3.out⟩
    | some l =>
      rw [hm] at hr
      obtain ⟨v, rfl, hrow⟩ := hr
      obtain ⟨a, c, rfl, hc, hcm, hat⟩ := hrow.form
      have hll := (readM_len hm).1
      have HA := Lib.hid hat
      clear hrow hat
      by_cases hneg : i < 0
      · have F := Lib.hid (show getM room i = (⟨#[]⟩, 6) by simp [getM, hm, hasI_out (l := l) (.inl hneg)])
        clear hm
        rw [F.out]
        go_wp2_with fail
        go_ret
        exact ⟨rfl, HB3.out⟩
      · obtain ⟨k, rfl⟩ := Int.eq_ofNat_of_zero_le (show 0 ≤ i by omega)
        by_cases hge : l.length ≤ k
        · have F := Lib.hid (show getM room k = (⟨#[]⟩, 6) by simp [getM, hm, hasI_out (l := l) (i := k) (.inr (by omega))])
          have q1 : (l.length : Int) ≤ k := by omega
          clear hm
          rw [F.out]
          go_wp2_with fail
          go_ret
          exact ⟨rfl, HB3.out⟩
        · obtain ⟨b, off, ha, hcell⟩ := HA.out.some (show k < l.length by omega)
          have hx : l[k]? = some l[k] := List.getElem?_eq_getElem _
          obtain ⟨c0, c1⟩ := hcell k _ hx
          have q1 : (k : Int) < l.length := by omega
          have q2 : decide (l.length ≤ k) = false := by simp; omega
          have q3 : decide ((l.length : Int) ≤ k) = false := by simp; omega
          have F2 : recI l k = l[k].2 := by simp [recI, hx]
          have F1 := hasI_some hx
          generalize l[k] = x at *
          clear hcell
          subst ha
          cases hu : x.1
          · have F := Lib.hid (show getM room k = (⟨#[]⟩, 6) by simp [getM, hm, F1, hu])
            rw [hu] at c0
            clear hm F1 F2 hx hu
            rw [F.out]
            go_wp2_with fail
            go_ret
            exact ⟨rfl, HB3.out⟩
          · have F := Lib.hid (show getM room k = (x.2, 0) by simp [getM, hm, F1, hu, F2])
            rw [hu] at c0
            clear hm F1 F2 hx hu
            rw [F.out]
            go_wp2_with fail
            go_ret
            exact ⟨rfl, HB3.out⟩

theorem none_all {room : ByteArray} (h : readM room = none) (i : Int) (s : ByteArray) : getM room i = (⟨#[]⟩, 2) ∧ addM room s = (⟨#[]⟩, 0, 2) ∧ setM room i s = (⟨#[]⟩, 2) ∧ delM room i = (⟨#[]⟩, 2) ∧ leftM room = -1 := by
  simp [getM, addM, setM, delM, leftM, h]

set_option maxRecDepth 100000 in
set_option maxHeartbeats 3200000 in
theorem slotReads_walk {w : World} (room : ByteArray) (i : Int) (s : ByteArray) (hz : room.size ≤ 140737488351232) (h1 : -9223372036854775808 ≤ i) (h2 : i ≤ 9223372036854775807) (hs : s.size ≤ 140737488351232) :
    Calls Try.prog 12 #[.string room, .int .i64 i, .string s] w fun e w' => e = .returned (.bool true) ∧ Below w.heap.size w w' := by
  by_cases hbig : 2000 < room.size ∨ 1000 < s.size
  · go_enter Try.func12, Try.ntmps12
    go_wp2_with fail
    refine (awake12_any _).mono ?_
    rintro e w1 ⟨rfl, hb1⟩
    have HB1 := Lib.hid hb1
    clear hb1
    have hcase : (2000 : Int) < room.size ∨ ((room.size : Int) ≤ 2000 ∧ (1000 : Int) < s.size) := by omega
    have HC := Lib.hid hcase
    clear hcase hbig
    rcases HC.out with b1 | ⟨b1, b2⟩
    · go_wp2_with fail
      refine (awake12_any _).mono ?_
      rintro e w2 ⟨rfl, hb2⟩
      have HB2 := Lib.hid (below_step hb2 HB1.out)
      clear hb2
      go_wp2_with fail
      go_ret
      exact ⟨rfl, HB2.out⟩
    · go_wp2_with fail
      refine (awake12_any _).mono ?_
      rintro e w2 ⟨rfl, hb2⟩
      have HB2 := Lib.hid (below_step hb2 HB1.out)
      clear hb2
      go_wp2_with fail
      go_ret
      exact ⟨rfl, HB2.out⟩
  · have b1 : (room.size : Int) ≤ 2000 := by omega
    have b2 : (s.size : Int) ≤ 1000 := by omega
    clear hbig
    go_enter Try.func12, Try.ntmps12
    go_wp2_with fail
    refine (awake12_any _).mono ?_
    rintro e w1 ⟨rfl, hb1⟩
    have HB1 := Lib.hid hb1
    clear hb1
    go_wp2_with fail
    refine (read_any room _ (by omega)).mono ?_
    rintro e w2 ⟨hb2, hr⟩
    have HB2 := Lib.hid (below_step hb2 HB1.out)
    clear hb2
    cases hm : readM room with
    | none =>
      rw [hm] at hr
      obtain rfl := hr
      obtain ⟨e1, e2, e3, e4, e5⟩ := none_all hm i s
      have hN : ∀ (W W' : World) (e : Ending), RReadEnd W room e W' → Below W.heap.size W W' ∧ ∃ a n c, e = .returned (.tuple #[.slice a n c, .bool false]) := fun W W' e h => by
        unfold RReadEnd at h; rw [hm] at h; exact h
      have HN := Lib.hid hN
      have E1 := Lib.hid e1; have E2 := Lib.hid e2; have E3 := Lib.hid e3; have E4 := Lib.hid e4; have E5 := Lib.hid e5
      clear hm hN e1 e2 e3 e4 e5
      go_wp2_with fail
      refine (rread12_any room _ (by omega)).mono ?_
      rintro e w3 hrr
      obtain ⟨hb3, a, n, c, rfl⟩ := HN.out _ _ _ hrr
      have HB3 := Lib.hid (below_step hb3 HB2.out)
      clear hb3 hrr
      go_wp2_with fail
      refine (getS_any room i _ (by omega) h1 h2).mono ?_
      rintro e w4 ⟨rfl, hb4⟩
      have HB4 := Lib.hid (below_step hb4 HB3.out)
      clear hb4
      rw [E1.out]
      go_wp2_with fail
      refine (addS_any room s _ (by omega) (by omega)).mono ?_
      rintro e w5 ⟨rfl, hb5⟩
      have HB5 := Lib.hid (below_step hb5 HB4.out)
      clear hb5
      rw [E2.out]
      go_wp2_with fail
      refine (setS_any room i s _ (by omega) h1 h2 (by omega)).mono ?_
      rintro e w6 ⟨rfl, hb6⟩
      have HB6 := Lib.hid (below_step hb6 HB5.out)
      clear hb6
      rw [E3.out]
      go_wp2_with fail
      refine (delS_any room i _ (by omega) h1 h2).mono ?_
      rintro e w7 ⟨rfl, hb7⟩
      have HB7 := Lib.hid (below_step hb7 HB6.out)
      clear hb7
      rw [E4.out]
      go_wp2_with fail
      refine (leftS_any room _ (by omega)).mono ?_
      rintro e w8 ⟨rfl, hb8⟩
      have HB8 := Lib.hid (below_step hb8 HB7.out)
      clear hb8
      rw [E5.out]
      go_wp2_with fail
      go_ret
      exact ⟨rfl, HB8.out⟩
    | some l =>
      rw [hm] at hr
      obtain ⟨v, rfl, hrow⟩ := hr
      obtain ⟨a, c, rfl, hc, hat⟩ := hrow.form
      have hll := (readM_len hm).1
      have HA := Lib.hid hat
      have hN : ∀ (W W' : World) (e : Ending), RReadEnd W room e W' → Below W.heap.size W W' ∧ ∃ v, e = .returned (.tuple #[v, .bool true]) ∧ RefRow W' W.heap.size v l := fun W W' e h => by
        unfold RReadEnd at h; rw [hm] at h; exact h
      have HN := Lib.hid hN
      clear hm hN hrow hat
      go_wp2_with fail
      refine (rread12_any room _ (by omega)).mono ?_
      rintro e w3 hrr
      obtain ⟨hb3, v3, rfl, hrow3⟩ := HN.out _ _ _ hrr
      obtain ⟨a3, c3, rfl, hc3, hcm3, hat3⟩ := hrow3.form
      have HA3 := Lib.hid hat3
      have HP := Lib.hid (plain_any (c := c) (HA.out.below hb3) (by omega))
      have HB3 := Lib.hid (below_step hb3 HB2.out)
      clear hb3 hrr hrow3 hat3
      go_wp2_with fail
      refine HP.out.mono ?_
      rintro e w4 ⟨v4, rfl, hrow4, hb4⟩
      obtain ⟨a4, c4, rfl, hc4, hcm4, hat4⟩ := hrow4.form
      have HS := Lib.hid (same_any (c1 := c4) (c2 := c3) hat4 (HA3.out.below hb4) (by omega))
      have HB4 := Lib.hid (below_step hb4 HB3.out)
      clear hb4 hrow4 hat4
      go_wp2_with fail
      refine HS.out.mono ?_
      rintro e w5 ⟨rfl, hb5⟩
      have HB5 := Lib.hid (below_step hb5 HB4.out)
      clear hb5
      go_wp2_with fail
      go_ret
      exact ⟨rfl, HB5.out⟩

end Go.Proofs.Yteijagojagfecaa
