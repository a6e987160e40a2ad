/- The reference's slots: trim, Pack. -/
import Derived.Test.YteijagojagfecaaSlotLeft
import Derived.Test.YteijagojagfecaaRef1
namespace Go.Proofs.Yteijagojagfecaa
open Go.RowKit Go.Joins
set_option linter.unusedVariables false

theorem conv_nulB (w : World) (B g n : Nat) (h : w.ownsRow B 5 1 (.slice (some ⟨g, 0, none⟩) n n) n (madeCells (Value.int .u8 0).cells (n * 1)).toList) :
    (convert 92 9 (.slice (some ⟨g, 0, none⟩) n n)).run Try.prog w = .ok (.string (S (nul n))) w := by
  have h1 := toList_madeCells_one (Value.int .u8 0) n
  have h2 : (Value.int .u8 0).cells = #[Value.int .u8 0] := rfl
  rw [h2, Nat.mul_one, h1] at h
  have hc := run_convert_bytes_back (P := Try.prog) w 92 9 5 ⟨g, 0, none⟩ n (nul n) Try.underlying92 Try.underlying5 Try.underlying9 (by
    intro t ht
    rw [nul_length] at ht
    have : (⟨g, 0, none⟩ : Addr).add t = ⟨g, t, none⟩ := by unfold Addr.add; split <;> simp_all
    rw [this, h.cellAt t (by omega)]
    simp [nul, ht])
  rw [nul_length] at hc
  exact hc

set_option maxRecDepth 100000 in
set_option maxHeartbeats 2000000 in
theorem rtrim_any {w : World} {a : Option Addr} {l : List SlotD} {c : Nat} (h : SlotsAt w a l) (hc : l.length ≤ c) (hm : l.length ≤ 1000000) (hcm : c ≤ 9223372036854775807) :
    Calls Try.prog 60 #[.slice a l.length c] w fun e w' => e = .returned (.slice a (trimLen l l.length) c) ∧ w = w' := by
  have H := Lib.hid h
  clear h
  go_enter Try.func60, Try.ntmps60
  go_wp2_with fail
  go_loop [0] (fun v => ∃ k : Nat, k ≤ l.length ∧ v = .slice a k c ∧ trimLen l k = trimLen l l.length) (fun v => match v with | .slice _ n _ => n | _ => 0)
  case atStart => exact ⟨l.length, Nat.le_refl _, rfl, rfl⟩
  case round =>
    obtain ⟨k, hk, rfl, ht⟩ := hrel
    have HT := Lib.hid ht
    clear ht
    by_cases hlt : 0 < k
    · obtain ⟨j, rfl⟩ : ∃ j, k = j + 1 := ⟨k - 1, by omega⟩
      obtain ⟨b, off, ha, hcell⟩ := H.out.some (show j < l.length by omega)
      have hx : l[j]? = some l[j] := List.getElem?_eq_getElem _
      obtain ⟨c0, c1⟩ := hcell j _ hx
      have HX := Lib.hid hx
      generalize l[j] = x at *
      clear hcell hx
      subst ha
      have j1 : (0 : Int) ≤ j := by omega
      have j2 : (j : Int) ≤ c := by omega
      rcases slot_cases x with rfl | hu | ⟨hu, hs⟩
      · have F := Lib.hid (trimLen_step HX.out rfl)
        go_wp2_with fail
        go_round
        case rel => exact ⟨j, by omega, rfl, F.out.symm.trans HT.out⟩
        case measure => simp
      · have F := Lib.hid ((trimLen_stop HX.out (emptyB_used hu)).symm.trans HT.out)
        rw [hu] at c0
        clear hu
        go_wp2_with fail
        go_ret
        rw [← F.out]
        exact ⟨rfl, rfl⟩
      · have F := Lib.hid ((trimLen_stop HX.out (emptyB_full hs)).symm.trans HT.out)
        have hs' := toList_ne hs
        rw [hu] at c0
        clear hu
        go_wp2_with fail
        go_ret
        rw [← F.out]
        exact ⟨rfl, rfl⟩
    · obtain rfl : k = 0 := by omega
      go_wp2_with fail
      go_ret
      rw [← HT.out]
      exact ⟨rfl, rfl⟩

theorem packM_full {l : List SlotD} (hb : l.any badB = false) (h : 494 < 2 * (trimS l).length + sumR (trimS l)) : packM l = (⟨#[]⟩, 8) := by
  unfold packM
  simp [hb, h]
theorem packM_fits {l : List SlotD} (hb : l.any badB = false) (h : 2 * (trimS l).length + sumR (trimS l) ≤ 494) : packM l = (S (roomS (trimS l)), 0) := by
  have : ¬ 494 < 2 * (trimS l).length + sumR (trimS l) := by omega
  unfold packM
  simp [hb, this]
theorem packM_err {l : List SlotD} (hb : l.any badB = true) : packM l = (⟨#[]⟩, 2) := by
  unfold packM
  simp [hb]

set_option maxRecDepth 100000 in
set_option maxHeartbeats 4000000 in
theorem rpack_any {w : World} {a : Option Addr} {l : List SlotD} {c : Nat} (h : SlotsAt w a l) (hc : l.length ≤ c) (hm : l.length ≤ 1000000) (hcm : c ≤ 9223372036854775807) (hz : ∀ x ∈ l, x.2.size ≤ 9223372036854775807) :
    Calls Try.prog 25 #[.slice a l.length c] w fun e w' => e = .returned (.tuple #[.string (packM l).1, .int .i64 (packM l).2]) ∧ Below w.heap.size w w' := by
  have H := Lib.hid h
  have HTR := Lib.hid (rtrim_any h hc hm hcm)
  have HZ := Lib.hid hz
  clear h hz
  go_enter Try.func25, Try.ntmps25
  go_wp2_with fail
  go_loop [4] (fun v => ∃ k : Nat, k ≤ l.length ∧ v = .int .i64 k ∧ ∀ (j : Nat) (y : SlotD), j < k → l[j]? = some y → badB y = false) (fun v => l.length - (intOf v).toNat)
  case atStart => exact ⟨0, Nat.zero_le _, rfl, fun j y hj => absurd hj (by omega)⟩
  case round =>
    obtain ⟨k, hk, rfl, hall⟩ := hrel
    have HA := Lib.hid hall
    clear hall
    by_cases hlt : k < l.length
    · obtain ⟨b, off, ha, hcell⟩ := H.out.some hlt
      have hx : l[k]? = some l[k] := List.getElem?_eq_getElem _
      obtain ⟨c0, c1⟩ := hcell k _ hx
      have HX := Lib.hid hx
      generalize l[k] = x at *
      clear hcell hx
      subst ha
      rcases slot_cases x with rfl | hu | ⟨hu, hs⟩
      · go_wp2_with fail
        go_round
        case rel =>
          refine ⟨k + 1, by omega, by go_num, fun j y hj hy => ?_⟩
          by_cases e : j = k
          · subst e; have := HX.out.symm.trans hy; cases this; rfl
          · exact HA.out j y (by omega) hy
        case measure => simp [intOf]; omega
      · have HU := Lib.hid hu
        rw [hu] at c0
        clear hu
        go_wp2_with fail
        go_round
        case rel =>
          refine ⟨k + 1, by omega, by go_num, fun j y hj hy => ?_⟩
          by_cases e : j = k
          · subst e; have := HX.out.symm.trans hy; cases this; exact badB_used HU.out
          · exact HA.out j y (by omega) hy
        case measure => simp [intOf]; omega
      · have F := Lib.hid (packM_err (l := l) (List.any_eq_true.2 ⟨x, List.mem_of_getElem? HX.out, badB_full hu hs⟩))
        have hs' := toList_ne hs
        rw [hu] at c0
        clear hu
        go_wp2_with fail
        go_ret2
        rw [F.out]
        exact ⟨rfl, Below.refl _ _⟩
    · obtain rfl : k = l.length := by omega
      have HB := Lib.hid (show l.any badB = false by
        rw [List.any_eq_false]
        intro x hx
        obtain ⟨j, hj⟩ := List.mem_iff_getElem?.1 hx
        simp [HA.out j x (List.getElem?_eq_some_iff.1 hj).1 hj])
      clear HA
      have hml := trimLen_le l l.length
      have htl := trimS_length l
      have HS : Hid (SlotsAt w a (trimS l)) := Lib.hid (H.out.take _)
      have HZ2 : Hid (∀ x ∈ trimS l, x.2.size ≤ 9223372036854775807) := Lib.hid fun x hx => HZ.out x (List.mem_of_mem_take hx)
      rw [← htl] at hml HTR
      have HF := Lib.hid (packM_full HB.out)
      have HG := Lib.hid (packM_fits HB.out)
      clear htl HB
      generalize trimS l = t at *
      go_wp2_with fail
      refine HTR.out.mono ?_
      rintro e w1 ⟨rfl, rfl⟩
      clear HTR HZ H
      go_wp2_with fail
      go_loopw [5, 6] (fun u v wr => ∃ j : Nat, j ≤ t.length ∧ v = .int .i64 j ∧ u = .int .i64 (2 + 2 * (j : Int) + (sumR (t.take j) : Nat)) ∧ 2 * j + sumR (t.take j) ≤ 992 ∧ w = wr) (fun _ v _ => t.length - (intOf v).toNat)
      case atStart => exact ⟨0, Nat.zero_le _, rfl, by simp [sumR], by simp [sumR], by trivial⟩
      case round =>
        obtain ⟨j, hj, rfl, rfl, hle, rfl⟩ := hrel
        have hsl := sumR_take_le t j
        obtain ⟨q, hq⟩ : ∃ q : Nat, q = 2 + 2 * j + sumR (t.take j) := ⟨_, rfl⟩
        have hqi : 2 + 2 * (j : Int) + (sumR (t.take j) : Nat) = q := by omega
        rw [hqi]
        clear hqi
        have HQ := Lib.hid hq
        have hqb : q ≤ 1000 := by omega
        clear hq hle
        by_cases hlt : j < t.length
        · obtain ⟨b, off, ha, hcell⟩ := HS.out.some hlt
          have hx : t[j]? = some t[j] := List.getElem?_eq_getElem _
          obtain ⟨c0, c1⟩ := hcell j _ hx
          have hxz := HZ2.out _ (List.getElem_mem hlt)
          have htk : t.take (j + 1) = t.take j ++ [t[j]] := List.take_succ_eq_append_getElem hlt
          have hs1 := sumR_take_le t (j + 1)
          rw [htk, sumR_snoc] at hs1
          have HK := Lib.hid htk
          have HS1 := Lib.hid hs1
          generalize t[j] = x at *
          clear hcell hx htk hs1
          subst ha
          by_cases p1 : 496 < q
          · have F := Lib.hid (HF.out (by have := HQ.out; have := HS1.out; omega))
            have p1' : (496 : Int) < q := by omega
            go_wp2_with fail
            go_ret2
            rw [F.out]
            exact ⟨rfl, Below.refl _ _⟩
          · have p1' : (q : Int) ≤ 496 := by omega
            by_cases p2 : 496 < x.2.size
            · have F := Lib.hid (HF.out (by have := HQ.out; have := HS1.out; omega))
              have p2' : (496 : Int) < x.2.size := by omega
              go_wp2_with fail
              go_ret2
              rw [F.out]
              exact ⟨rfl, Below.refl _ _⟩
            · have p2' : (x.2.size : Int) ≤ 496 := by omega
              have e2 : (q : Int) + 2 + x.2.size = 2 + 2 * ((j + 1 : Nat) : Int) + (sumR (t.take (j + 1)) : Nat) := by rw [HK.out, sumR_snoc]; have := HQ.out; omega
              have e3 : 2 * (j + 1) + sumR (t.take (j + 1)) ≤ 992 := by rw [HK.out, sumR_snoc]; have := HQ.out; omega
              have HE2 := Lib.hid e2
              have HE3 := Lib.hid e3
              clear e2 e3
              go_wp2_with fail
              go_roundw
              case rel => exact ⟨j + 1, by omega, by go_num, congrArg (Value.int .i64) HE2.out, HE3.out, by trivial⟩
              case measure => simp [intOf]; omega
        · obtain rfl : j = t.length := by omega
          have hq2 := HQ.out
          rw [List.take_length] at hq2
          by_cases p1 : 496 < q
          · have F := Lib.hid (HF.out (by omega))
            have p1' : (496 : Int) < q := by omega
            clear hq2
            go_wp2_with fail
            go_ret2
            rw [F.out]
            exact ⟨rfl, Below.refl _ _⟩
          · have F := Lib.hid (HG.out (by omega))
            have p1' : (q : Int) ≤ 496 := by omega
            have hfit : 2 * t.length + sumR t ≤ 494 := by omega
            have HFit := Lib.hid hfit
            have htl : t.length ≤ 247 := by omega
            clear hq2 hfit HF HG hsl
            go_wp2_with fail
            refine (refPut_any t.length 2 _ (by omega) (by omega) (by omega)).mono ?_
            rintro e w2 ⟨rfl, hb2⟩
            have HB2 := Lib.hid hb2
            clear hb2
            go_wp2_with fail
            go_loopw [7, 8, 9] (fun u v _ wr => ∃ j : Nat, j ≤ t.length ∧ v = .int .i64 j ∧ u = .string (S (leB t.length 2 ++ headS (t.take j))) ∧ Below w.heap.size w wr) (fun _ v _ _ => t.length - (intOf v).toNat)
            case atStart => exact ⟨0, Nat.zero_le _, rfl, by simp [headS], HB2.out⟩
            case round =>
              obtain ⟨j, hj, rfl, rfl, hb⟩ := hrel
              have HB := Lib.hid hb
              have hsz : (S (leB (t.length : Nat) 2 ++ headS (t.take j))).size ≤ 1000 := by rw [S_size, List.length_append, leB_length, headS_length, List.length_take]; omega
              by_cases hlt : j < t.length
              · obtain ⟨b, off, ha, hcell⟩ := (HS.out.below hb).some hlt
                have hx : t[j]? = some t[j] := List.getElem?_eq_getElem _
                obtain ⟨c0, c1⟩ := hcell j _ hx
                have hxz : (t[j]).2.size ≤ 494 := by have := sumR_mem (List.getElem_mem hlt); have := HFit.out; omega
                have htk : t.take (j + 1) = t.take j ++ [t[j]] := List.take_succ_eq_append_getElem hlt
                have HK := Lib.hid htk
                generalize t[j] = x at *
                clear hcell hx htk hb
                subst ha
                obtain ⟨u, s⟩ := x
                simp only at c0 c1 hxz
                cases u
                · have HN : Hid (S (leB t.length 2 ++ headS (t.take j)) ++ S (leB 0 2) = S (leB t.length 2 ++ headS (t.take (j + 1)))) := Lib.hid (by rw [HK.out, headS_snoc, S_append, List.append_assoc]; rfl)
                  generalize S (leB (t.length : Nat) 2 ++ headS (t.take j)) = T at *
                  have z1 : (S (leB 0 2)).size ≤ 1000 := by rw [S_size, leB_length]; decide
                  go_wp2_with fail
                  refine (refPut_any 0 2 _ (by omega) (by omega) (by omega)).mono ?_
                  rintro e w3 ⟨rfl, hb3⟩
                  have HB3 := Lib.hid (below_step hb3 HB.out)
                  clear hb3
                  go_wp2_with fail
                  go_roundw
                  case rel => exact ⟨j + 1, by omega, by go_num, congrArg Value.string HN.out, HB3.out⟩
                  case measure => simp [intOf]; omega
                · have HN : Hid (S (leB t.length 2 ++ headS (t.take j)) ++ S (leB ((s.size : Int) + 1) 2) = S (leB t.length 2 ++ headS (t.take (j + 1)))) := Lib.hid (by rw [HK.out, headS_snoc, S_append, List.append_assoc]; rfl)
                  generalize S (leB (t.length : Nat) 2 ++ headS (t.take j)) = T at *
                  have z1 : (S (leB ((s.size : Int) + 1) 2)).size ≤ 1000 := by rw [S_size, leB_length]; decide
                  go_wp2_with fail
                  refine (refPut_any ((s.size : Int) + 1) 2 _ (by omega) (by omega) (by omega)).mono ?_
                  rintro e w3 ⟨rfl, hb3⟩
                  have HB3 := Lib.hid (below_step hb3 HB.out)
                  clear hb3
                  go_wp2_with fail
                  go_roundw
                  case rel => exact ⟨j + 1, by omega, by go_num, congrArg Value.string HN.out, HB3.out⟩
                  case measure => simp [intOf]; omega
              · obtain rfl : j = t.length := by omega
                rw [List.take_length]
                clear hb hsz HB2
                go_wp2_with fail
                go_loopw [7, 10] (fun u v wr => ∃ j : Nat, j ≤ t.length ∧ v = .int .i64 j ∧ u = .string (S (leB t.length 2 ++ headS t ++ tailS (t.take j))) ∧ Below w.heap.size w wr) (fun _ v _ => t.length - (intOf v).toNat)
                case atStart => exact ⟨0, Nat.zero_le _, rfl, by simp [tailS], HB.out⟩
                case round =>
                  obtain ⟨j, hj, rfl, rfl, hb⟩ := hrel
                  have HB := Lib.hid hb
                  have hst := sumR_take_le t j
                  have hsz : (S (leB (t.length : Nat) 2 ++ headS t ++ tailS (t.take j))).size = 2 + 2 * t.length + sumR (t.take j) := by rw [S_size, List.length_append, List.length_append, leB_length, headS_length, tailS_length]
                  have hfi := HFit.out
                  by_cases hlt : j < t.length
                  · obtain ⟨b, off, ha, hcell⟩ := (HS.out.below hb).some hlt
                    have hx : t[j]? = some t[j] := List.getElem?_eq_getElem _
                    obtain ⟨c0, c1⟩ := hcell j _ hx
                    have hxz := sumR_mem (List.getElem_mem hlt)
                    have htk : t.take (j + 1) = t.take j ++ [t[j]] := List.take_succ_eq_append_getElem hlt
                    have HK := Lib.hid htk
                    generalize t[j] = x at *
                    clear hcell hx htk hb
                    subst ha
                    have HN : Hid (S (leB t.length 2 ++ headS t ++ tailS (t.take j)) ++ x.2 = S (leB t.length 2 ++ headS t ++ tailS (t.take (j + 1)))) := Lib.hid (by rw [HK.out, tailS_snoc, ← List.append_assoc]; exact S_append_s _ _)
                    have z1 : x.2.size ≤ 1000 := by omega
                    have z2 : (S (leB (t.length : Nat) 2 ++ headS t ++ tailS (t.take j))).size ≤ 1000 := by omega
                    clear hsz hst hfi hxz
                    generalize S (leB (t.length : Nat) 2 ++ headS t ++ tailS (t.take j)) = T at *
                    go_wp2_with fail
                    go_roundw
                    case rel => exact ⟨j + 1, by omega, by go_num, congrArg Value.string HN.out, HB.out⟩
                    case measure => simp [intOf]; omega
                  · obtain rfl : j = t.length := by omega
                    rw [List.take_length] at hsz ⊢
                    obtain ⟨L, hL⟩ : ∃ L : Nat, L = 494 - 2 * t.length - sumR t := ⟨_, rfl⟩
                    have z0 : (496 : Int) - ((S (leB (t.length : Nat) 2 ++ headS t ++ tailS t)).size : Int) = L := by omega
                    have z2 : (S (leB (t.length : Nat) 2 ++ headS t ++ tailS t)).size ≤ 1000 := by omega
                    have z3 : (S (nul L)).size ≤ 1000 := by rw [S_size, nul_length]; omega
                    have hL4 : L ≤ 494 := by omega
                    have HN : Hid (S (leB t.length 2 ++ headS t ++ tailS t) ++ S (nul L) = S (roomS t)) := Lib.hid (by rw [S_append, hL]; rfl)
                    clear hsz hst hfi hL hb
                    generalize S (leB (t.length : Nat) 2 ++ headS t ++ tailS t) = T at *
                    obtain ⟨i0, hi, hz0, hz1, hz2⟩ := info_parts Try.infoByte
                    go_wp2_with (at_make; refine wpList_make_full _ rfl (.tmp 104) (.tmp 104) 92 rfl wr.heap.size 5 i0 (.int .u8 0) 1 Try.underlying92 hi hz0 hz1 .i64 .i64 L L L (by rfl) (by rfl) rfl rfl (by rw [hz2]; omega) (by unfold maxLen; omega) (Nat.le_refl _) ?_; intro w3 hown hgr; have hv := conv_nulB _ _ _ _ hown; clear hown)
                    go_ret2
                    rw [F.out, ← HN.out]
                    exact ⟨rfl, HB.out.grown hgr HB.out.size (fun q hq => by cases hq)⟩

end Go.Proofs.Yteijagojagfecaa
