/- The walk of the law SlotKeeps. -/
import Derived.Test.YteijagojagfecaaSlotActs
namespace Go.Proofs.Yteijagojagfecaa
open Go.RowKit Go.Joins
set_option linter.unusedVariables false

set_option maxRecDepth 100000 in
set_option maxHeartbeats 6000000 in
theorem slotKeeps_walk {w : World} {a1 a2 : Option Addr} {n1 n2 c1 c2 : Nat} {l1 l2 : List ActS} (rec_ : ByteArray) (h1 : ActsS w a1 n1 l1) (h2 : ActsS w a2 n2 l2) (hz : rec_.size ≤ 140737488351232) :
    Calls Try.prog 10 #[.slice a1 n1 c1, .string rec_, .slice a2 n2 c2] w fun e w' => e = .returned (.bool true) ∧ Below w.heap.size w w' := by
  have H1 := Lib.hid h1
  have H2 := Lib.hid h2
  clear h1 h2
  cases hf1 : fewS l1
  · have E1 := Lib.hid hf1
    clear hf1
    go_enter Try.func10, Try.ntmps10
    go_wp2_with fail
    refine (awake12_any _).mono ?_
    rintro e w1 ⟨rfl, hb1⟩
    have HB1 := Lib.hid hb1
    have HF1 := Lib.hid (fewS_any (c := c1) (H1.out.below hb1))
    have HF2 := Lib.hid (fewS_any (c := c2) (H2.out.below hb1))
    clear hb1
    go_wp2_with fail
    refine HF1.out.mono ?_
    rintro e w2 ⟨rfl, rfl⟩
    rw [E1.out]
    go_wp2_with fail
    refine (awake12_any _).mono ?_
    rintro e w2 ⟨rfl, hb2⟩
    have HB2 := Lib.hid (below_step hb2 HB1.out)
    clear hb2
    go_wp2_with fail
    go_ret
    exact ⟨rfl, HB2.out⟩
  · have E1 := Lib.hid hf1
    clear hf1
    cases hf2 : fewS l2
    · have E2 := Lib.hid hf2
      clear hf2
      go_enter Try.func10, Try.ntmps10
      go_wp2_with fail
      refine (awake12_any _).mono ?_
      rintro e w1 ⟨rfl, hb1⟩
      have HB1 := Lib.hid hb1
      have HF1 := Lib.hid (fewS_any (c := c1) (H1.out.below hb1))
      have HF2 := Lib.hid (fewS_any (c := c2) (H2.out.below hb1))
      clear hb1
      go_wp2_with fail
      refine HF1.out.mono ?_
      rintro e w2 ⟨rfl, rfl⟩
      rw [E1.out]
      go_wp2_with fail
      refine HF2.out.mono ?_
      rintro e w2 ⟨rfl, rfl⟩
      rw [E2.out]
      go_wp2_with fail
      refine (awake12_any _).mono ?_
      rintro e w2 ⟨rfl, hb2⟩
      have HB2 := Lib.hid (below_step hb2 HB1.out)
      clear hb2
      go_wp2_with fail
      go_ret
      exact ⟨rfl, HB2.out⟩
    · have E2 := Lib.hid hf2
      clear hf2
      by_cases hbig : 1000 < rec_.size
      · have b1 : (1000 : Int) < rec_.size := by omega
        go_enter Try.func10, Try.ntmps10
        go_wp2_with fail
        refine (awake12_any _).mono ?_
        rintro e w1 ⟨rfl, hb1⟩
        have HB1 := Lib.hid hb1
        have HF1 := Lib.hid (fewS_any (c := c1) (H1.out.below hb1))
        have HF2 := Lib.hid (fewS_any (c := c2) (H2.out.below hb1))
        clear hb1
        go_wp2_with fail
        refine HF1.out.mono ?_
        rintro e w2 ⟨rfl, rfl⟩
        rw [E1.out]
        go_wp2_with fail
        refine HF2.out.mono ?_
        rintro e w2 ⟨rfl, rfl⟩
        rw [E2.out]
        go_wp2_with fail
        refine (awake12_any _).mono ?_
        rintro e w2 ⟨rfl, hb2⟩
        have HB2 := Lib.hid (below_step hb2 HB1.out)
        clear hb2
        go_wp2_with fail
        go_ret
        exact ⟨rfl, HB2.out⟩
      · have b1 : (rec_.size : Int) ≤ 1000 := by omega
        have hn1 : n1 ≤ 300 := by rw [H1.out.len]; exact (fewS_true E1.out).1
        have hn2 : n2 ≤ 300 := by rw [H2.out.len]; exact (fewS_true E2.out).1
        go_enter Try.func10, Try.ntmps10
        go_wp2_with fail
        refine (awake12_any _).mono ?_
        rintro e w1 ⟨rfl, hb1⟩
        have HB1 := Lib.hid hb1
        have HF1 := Lib.hid (fewS_any (c := c1) (H1.out.below hb1))
        have HF2 := Lib.hid (fewS_any (c := c2) (H2.out.below hb1))
        clear hb1
        go_wp2_with fail
        refine HF1.out.mono ?_
        rintro e w2 ⟨rfl, rfl⟩
        rw [E1.out]
        go_wp2_with fail
        refine HF2.out.mono ?_
        rintro e w2 ⟨rfl, rfl⟩
        rw [E2.out]
        clear HF1 HF2
        go_wp2_with fail
        refine (empty_any _).mono ?_
        rintro e w2 ⟨rfl, hb2⟩
        have HB2 := Lib.hid (below_step hb2 HB1.out)
        clear hb2
        go_wp2_with fail
        go_loopw [7, 8] (fun u v wr => ∃ (k : Nat) (room : ByteArray) (l : List SlotD), k ≤ n1 ∧ v = .int .i64 k ∧ u = .string room ∧ readM room = some l ∧ Below w.heap.size w wr) (fun _ v _ => n1 - (intOf v).toNat)
        case atStart => exact ⟨0, _, [], Nat.zero_le _, rfl, rfl, read_empty, HB2.out⟩
        case round =>
          clear HB2 HB1
          obtain ⟨k, room, l, hk, rfl, rfl, hm, hb⟩ := hrel
          have HM := Lib.hid hm
          have HB := Lib.hid hb
          have hrs := (readM_some hm).2.2.2.2
          have hrz : room.size ≤ 496 := by omega
          clear hm hrs
          by_cases hlt : k < n1
          · obtain ⟨b, off, x, ha, hx, hok, q0, q1, q2⟩ := (H1.out.below hb).get hlt
            have HD := Lib.hid (done_any room x wr (by omega) hok)
            obtain ⟨l', hl', -⟩ := done_keeps HM.out x
            have HL := Lib.hid hl'
            clear hx hok hl' hb
            subst ha
            go_wp2_with fail
            refine HD.out.mono ?_
            rintro e w3 ⟨rfl, hb3⟩
            have HB3 := Lib.hid (below_step hb3 HB.out)
            clear hb3
            go_wp2_with fail
            go_roundw
            case rel => exact ⟨k + 1, _, l', by omega, by go_num, rfl, HL.out, HB3.out⟩
            case measure => simp [intOf]; omega
          · obtain rfl : k = n1 := by omega
            clear hb
            have HA := Lib.hid (addS_any room rec_ wr (by omega) (by omega))
            have hadd : addM room rec_ = if (packM (addL l rec_)).2 = 0 then ((packM (addL l rec_)).1, (freeI l : Int), 0) else (⟨#[]⟩, 0, (packM (addL l rec_)).2) := by simp [addM, HM.out]
            have hG := Good.of_read HM.out
            have hpk := pack_addL hG rec_
            by_cases hfit : roomI l < rec_.size
            · rw [if_pos hfit] at hpk
              rw [hpk, if_neg (by decide)] at hadd
              rw [hadd] at HA
              have hlf := leftM_good HM.out
              have HLF := fun W => Lib.hid (leftS_any room W (by omega))
              rw [hlf] at HLF
              have hlt2 : max (roomI l) (-1) < rec_.size := by omega
              generalize max (roomI l) (-1) = Z at *
              clear hadd hpk hG hlf hfit
              go_wp2_with fail
              refine HA.out.mono ?_
              rintro e w3 ⟨rfl, hb3⟩
              have HB3 := Lib.hid (below_step hb3 HB.out)
              clear hb3
              go_wp2_with fail
              refine (HLF _).out.mono ?_
              rintro e w4 ⟨rfl, hb4⟩
              have HB4 := Lib.hid (below_step hb4 HB3.out)
              clear hb4
              go_wp2_with fail
              go_ret
              exact ⟨rfl, HB4.out⟩
            · rw [if_neg hfit] at hpk
              have hp0 : (packM (addL l rec_)).2 = 0 := by rw [hpk]
              have hrd := read_pack hp0
              rw [addL_trim hG] at hrd
              rw [if_pos hp0] at hadd
              rw [hadd] at HA
              have hat := addL_at l rec_
              have HR := Lib.hid hrd
              have HAT := Lib.hid hat
              have hfb : freeI l ≤ 300 := by have := freeI_le l; have := (readM_len HM.out).1; omega
              clear hadd hpk hG hfit hp0 hrd hat HM
              generalize (packM (addL l rec_)).1 = room1 at *
              generalize addL l rec_ = la at *
              generalize freeI l = A at *
              go_wp2_with fail
              refine HA.out.mono ?_
              rintro e w3 ⟨rfl, hb3⟩
              have HB3 := Lib.hid (below_step hb3 HB.out)
              clear hb3
              go_wp2_with fail
              go_loopw [7, 12, 13, 14] (fun u v _ _ wr => ∃ (k : Nat) (room : ByteArray) (l : List SlotD), k ≤ n2 ∧ v = .int .i64 k ∧ u = .string room ∧ readM room = some l ∧ l[A]? = some (true, rec_) ∧ Below w.heap.size w wr) (fun _ v _ _ _ => n2 - (intOf v).toNat)
              case atStart => exact ⟨0, _, la, Nat.zero_le _, rfl, rfl, HR.out, HAT.out, HB3.out⟩
              case round =>
                clear HB3 HR HAT HB HA
                obtain ⟨k2, room2, l2', hk2, rfl, rfl, hm2, hat2, hb2⟩ := hrel
                have HM2 := Lib.hid hm2
                have HAT2 := Lib.hid hat2
                have HB2 := Lib.hid hb2
                have hrs := (readM_some hm2).2.2.2.2
                have hrz2 : room2.size ≤ 496 := by omega
                clear hm2 hrs hat2
                by_cases hlt2 : k2 < n2
                · obtain ⟨b, off, x, ha, hx, hok, q0, q1, q2⟩ := (H2.out.below hb2).get hlt2
                  have hu := hok.u1
                  have HD := Lib.hid (done_any room2 x wr (by omega) hok)
                  obtain ⟨l', hl', hkp⟩ := done_keeps HM2.out x
                  have HKP := Lib.hid (hkp A rec_ HAT2.out)
                  have HL := Lib.hid hl'
                  have hrs := (readM_some hl').2.2.2.2
                  have hdz : (doneM room2 x).size ≤ 496 := by omega
                  have HGT : Hid (l'[A]? = some (true, rec_) → getM (doneM room2 x) A = (rec_, 0)) := Lib.hid fun hh => by
                    have h1 := hasI_some hh
                    simp only at h1
                    unfold getM
                    rw [HL.out]
                    simp [h1, recI, hh]
                  have HGC := fun W => Lib.hid (getS_any (doneM room2 x) A W (by omega) (by omega) (by omega))
                  clear hx hok hl' hb2 hkp hrs
                  subst ha
                  have hcs : x.b1 % 4 = 0 ∨ (x.b1 % 4 ≠ 0 ∧ x.i ≠ A) ∨ (x.b1 % 4 ≠ 0 ∧ x.i = A) := by omega
                  have HCS := Lib.hid hcs
                  clear hcs
                  rcases HCS.out with d0 | ⟨d0, d1⟩ | ⟨d0, d1⟩
                  · have G1 := Lib.hid (HGT.out (HKP.out (.inl d0)))
                    have G2 := Lib.hid (HKP.out (.inl d0))
                    rw [G1.out] at HGC
                    have e1 : (x.b1 % 4 == 0) = true := by simp [d0]
                    have e2 : (x.b1 % 4 != 0) = false := by simp [d0]
                    clear d0
                    go_wp2_with fail
                    refine HD.out.mono ?_
                    rintro e w5 ⟨rfl, hb5⟩
                    have HB5 := Lib.hid (below_step hb5 HB2.out)
                    clear hb5
                    go_wp2_with fail
                    refine (HGC _).out.mono ?_
                    rintro e w6 ⟨rfl, hb6⟩
                    have HB6 := Lib.hid (below_step hb6 HB5.out)
                    clear hb6
                    go_wp2_with fail
                    go_roundw
                    case rel => exact ⟨k2 + 1, _, l', by omega, by go_num, rfl, HL.out, G2.out, HB6.out⟩
                    case measure => simp [intOf]; omega
                  · have G1 := Lib.hid (HGT.out (HKP.out (.inr d1)))
                    have G2 := Lib.hid (HKP.out (.inr d1))
                    rw [G1.out] at HGC
                    have e1 : (x.b1 % 4 == 0) = false := by simp [d0]
                    have e2 : (x.b1 % 4 != 0) = true := by simp [d0]
                    have e3 : (x.i == (A : Int)) = false := by simp [d1]
                    clear d0 d1
                    go_wp2_with fail
                    refine HD.out.mono ?_
                    rintro e w5 ⟨rfl, hb5⟩
                    have HB5 := Lib.hid (below_step hb5 HB2.out)
                    clear hb5
                    go_wp2_with fail
                    refine (HGC _).out.mono ?_
                    rintro e w6 ⟨rfl, hb6⟩
                    have HB6 := Lib.hid (below_step hb6 HB5.out)
                    clear hb6
                    go_wp2_with fail
                    go_roundw
                    case rel => exact ⟨k2 + 1, _, l', by omega, by go_num, rfl, HL.out, G2.out, HB6.out⟩
                    case measure => simp [intOf]; omega
                  · have e1 : (x.b1 % 4 == 0) = false := by simp [d0]
                    have e2 : (x.b1 % 4 != 0) = true := by simp [d0]
                    have e3 : (x.i == (A : Int)) = true := by simp [d1]
                    clear d0 d1
                    go_wp2_with fail
                    go_roundw
                    case rel => exact ⟨k2 + 1, _, l2', by omega, by go_num, rfl, HM2.out, HAT2.out, HB2.out⟩
                    case measure => simp [intOf]; omega
                · obtain rfl : k2 = n2 := by omega
                  clear hb2
                  go_wp2_with fail
                  go_ret
                  exact ⟨rfl, HB2.out⟩

end Go.Proofs.Yteijagojagfecaa

