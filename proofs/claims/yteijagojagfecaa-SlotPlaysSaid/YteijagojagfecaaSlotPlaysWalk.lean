/- The walk of the law SlotPlays. -/
import Derived.Test.YteijagojagfecaaSlotActs
import Derived.Deep.DeepCutAuto
namespace Go.Proofs.Yteijagojagfecaa
open Go.RowKit Go.Joins
set_option linter.unusedVariables false

/-- 'append([]T{}, m...)'. -/
theorem wpList_copy {w : World} {ops : Array Oper} {rest : List Oper} {o : Oper} {a : Act} {Q : Exit → Act → World → Prop} (hgd : o.guard = none) (s x : Operand)
    (ho : o.op = .call { callee := .builtin .append, args := #[s, x], argTypes := #[41, 41] }) (base : Nat) {l : List SlotD} {ad : Option Addr} {c : Nat} {v : Value}
    (hs : a.eval s = v) (hown : w.ownsRow base 44 2 v 0 []) (hx : a.eval x = .slice ad l.length c) (hat : SlotsAt w ad l) (hnil : ad = none → c = 0) (hl : l.length ≤ 1000) (hb : base ≤ w.heap.size)
    (h : ∀ v' w', RefRow w' base v' l → w.grownBy w' v.ownBlock → wpList Try.prog ops Q rest (a.put o.dst v') w') : wpList Try.prog ops Q (o :: rest) a w := by
  obtain ⟨i0, hi, hz0, hz1, hz2⟩ := info_parts Try.infoRSlot
  cases ad with
  | none =>
    have hl0 : l = [] := by
      rcases hat with h | ⟨b, off, ha, _⟩
      · exact h
      · cases ha
    have hc0 := hnil rfl
    subst hl0 hc0
    refine wpList_append_own_none hgd s x 41 ho base 44 i0 2 Try.underlying41 hi v 0 [] hs hown hx ?_
    exact h v w hown ⟨rfl, rfl, rfl, Nat.le_refl _, fun _ _ _ => rfl⟩
  | some ad =>
    refine wpList_append_own w hgd s x 41 ho base 44 i0 _ 2 24 Try.underlying41 hi hz0 hz1 hz2 rfl (by decide) v 0 [] hs hown ad l.length c (slotCells l) hx (slotCells_length l) (slots_news hat) (slotCells_one l) (by unfold maxLen; omega) (by omega) hb ?_
    intro v' w' h1 h2 _
    rw [List.nil_append, Nat.zero_add] at h1
    exact h v' w' h1 h2

theorem RefRow.keep {w w' : World} {base B : Nat} {v : Value} {l : List SlotD} (h : RefRow w base v l) (hlt : ∀ q, v.ownBlock = some q → q < B) (hb : Below B w w') : RefRow w' base v l := by
  refine ⟨h.1, ?_⟩
  rcases h.2 with h0 | ⟨g, cap, cur, hv, hbg, hg, r⟩
  · exact .inl h0
  · exact .inr ⟨g, cap, cur, hv, hbg, (hb.block g (hlt g (by rw [hv]; rfl))).trans hg, r⟩

set_option maxRecDepth 100000 in
set_option maxHeartbeats 8000000 in
theorem slotPlays_walk {w : World} {a1 : Option Addr} {n1 c1 : Nat} {l1 : List ActS} (h1 : ActsS w a1 n1 l1) :
    Calls Try.prog 11 #[.slice a1 n1 c1] w fun e w' => e = .returned (.bool true) ∧ Below w.heap.size w w' := by
  have H1 := Lib.hid h1
  clear h1
  cases hf1 : fewS l1
  · have E1 := Lib.hid hf1
    clear hf1
    go_enter Try.func11, Try.ntmps11
    go_wp2_with fail
    refine (awake12_any _).mono ?_
    rintro e w1 ⟨rfl, hb1⟩
    have HB1 := Lib.hid hb1
    have HF1 := Lib.hid (fewS_any (c := c1) (H1.out.below hb1))
    clear hb1
    go_wp2_with fail
    refine HF1.out.mono ?_
    rintro e w2 ⟨rfl, rfl⟩
    rw [E1.out]
    go_wp2_with fail
    refine (awake12_any _).mono ?_
    rintro e w2 ⟨rfl, hb2⟩
    have HB2 := Lib.hid (below_step hb2 HB1.out)
    clear hb2
    go_wp2_with fail
    go_ret
    exact ⟨rfl, HB2.out⟩
  · have E1 := Lib.hid hf1
    clear hf1
    have hn1 : n1 ≤ 300 := by rw [H1.out.len]; exact (fewS_true E1.out).1
    go_enter Try.func11, Try.ntmps11
    go_wp2_with fail
    refine (awake12_any _).mono ?_
    rintro e w1 ⟨rfl, hb1⟩
    have HB1 := Lib.hid hb1
    have HF1 := Lib.hid (fewS_any (c := c1) (H1.out.below hb1))
    clear hb1
    go_wp2_with fail
    refine HF1.out.mono ?_
    rintro e w2 ⟨rfl, rfl⟩
    rw [E1.out]
    clear HF1
    go_wp2_with fail
    refine (empty_any _).mono ?_
    rintro e w2 ⟨rfl, hb2⟩
    have HB2 := Lib.hid (below_step hb2 HB1.out)
    clear hb2
    go_wp2_with fail
    go_loopw [3, 4, 5, 6, 7, 8, 9, 10, 11, 12, 13, 14, 15, 16, 17] (fun u mv v _ _ _ _ _ _ _ _ _ _ _ _ wr => ∃ (k : Nat) (room : ByteArray) (l : List SlotD), k ≤ n1 ∧ v = .int .i64 k ∧ u = .string room ∧ readM room = some l ∧ RefRow wr w.heap.size mv l ∧ Below w.heap.size w wr) (fun _ _ v _ _ _ _ _ _ _ _ _ _ _ _ _ => n1 - (intOf v).toNat)
    case atStart => exact ⟨0, _, [], Nat.zero_le _, rfl, rfl, read_empty, RefRow.nil _ _, HB2.out⟩
    case round =>
      clear HB2 HB1
      obtain ⟨k, room, l, hk, rfl, rfl, hm, hrow, hb⟩ := hrel
      have HM := Lib.hid hm
      have HB := Lib.hid hb
      have hrs := (readM_some hm).2.2.2.2
      have hrz : room.size ≤ 496 := by omega
      have hll := (readM_len hm).1
      obtain ⟨am, cm, hmv, hcm1, hcm2, -⟩ := hrow.form
      have hnil : am = none → cm = 0 := by rw [hmv] at hrow; exact hrow.nilcap
      subst hmv
      have HRM := Lib.hid hrow
      have HNIL := Lib.hid hnil
      clear hm hrs hrow hnil
      by_cases hlt : k < n1
      · obtain ⟨b, off, x, ha, hx, hok, q0, q1, q2⟩ := (H1.out.below hb).get hlt
        have HOK := Lib.hid hok
        have hu := hok.u1
        have hxi := hok.i
        have hxs : x.s.size ≤ 1000 := (fewS_true E1.out).2 x (List.mem_of_getElem? hx)
        have hsz := hb.size
        clear hx hok hb
        subst ha
        obtain ⟨x1, xi, xs⟩ := x
        simp only at q0 q1 q2 hu hxi hxs
        obtain ⟨wa, hwa⟩ : ∃ wa, wa = wr.alloc (.cells #[.int .u8 x1, .int .i64 xi, .string xs] 73) := ⟨_, rfl⟩
        have hza : wr.heap.size < wa.heap.size := by rw [hwa]; simp
        have HBA : Hid (Below wr.heap.size wr wa) := Lib.hid (by rw [hwa]; exact (Below.refl _ _).alloc (Nat.le_refl _) _)
        have hba := build_nil wa (wr.heap.size + 1) (by omega)
        have HATA := Lib.hid ((HRM.out.below HBA.out).form)
        have hma : SlotsAt (wa.alloc (.cells #[] 44)) am l := by
          obtain ⟨a', c', e', -, -, h'⟩ := HATA.out
          injection e' with e1 e2 e3
          subst e1
          exact h'.below (below_alloc (Below.refl _ _))
        have hda : wa.cell? ⟨wr.heap.size, 0, none⟩ = some (.int .u8 x1) ∧ wa.cell? ⟨wr.heap.size, 1, none⟩ = some (.int .i64 xi) ∧ wa.cell? ⟨wr.heap.size, 2, none⟩ = some (.string xs) := by
          rw [hwa]; exact ⟨by simp [World.cell?_alloc_new], by simp [World.cell?_alloc_new], by simp [World.cell?_alloc_new]⟩
        have hzz : wa.heap.size = wr.heap.size + 1 := by rw [hwa]; simp
        rw [hzz] at hba
        rw [hwa] at hba hma
        clear hzz
        have HBN := Lib.hid hba
        have HMA := Lib.hid hma
        have HDA := Lib.hid hda
        have HWA := Lib.hid hwa
        have hb5 : wr.heap.size + 1 ≤ ((wr.alloc (.cells #[.int .u8 x1, .int .i64 xi, .string xs] 73)).alloc (.cells #[] 44)).heap.size := by simp
        have HB5 := Lib.hid hb5
        clear hba hma hda hwa hb5
        go_upto_region 10 with ((at_builtin; refine wpList_copy (v := .slice (some ⟨wr.heap.size + 1, 0, none⟩) 0 0) rfl (.tmp 37) (.tmp 38) rfl (wr.heap.size + 1) rfl HBN.out rfl HMA.out HNIL.out (by omega) HB5.out ?_; intro v7 w3 hr7 hg7))
        have hb3 : Below wa.heap.size wa w3 := by
          rw [HWA.out]
          refine (((Below.refl _ _).alloc (Nat.le_refl _) _).grown hg7 (by simp) (fun q hq => ?_))
          simp [Value.ownBlock] at hq; simp; omega
        have hd0 := (hb3.cell (p := ⟨wr.heap.size, 0, none⟩) hza).trans HDA.out.1
        have hd1 := (hb3.cell (p := ⟨wr.heap.size, 1, none⟩) hza).trans HDA.out.2.1
        have hd2 := (hb3.cell (p := ⟨wr.heap.size, 2, none⟩) hza).trans HDA.out.2.2
        have hBr : Below wr.heap.size wr w3 := below_step hb3 HBA.out
        have HB3 := Lib.hid (below_step hBr HB.out)
        have HR7 := Lib.hid hr7
        have HM3 := Lib.hid (HRM.out.below hBr)
        have HML : Hid (∀ q, (Value.slice am l.length cm).ownBlock = some q → q < wr.heap.size) := Lib.hid fun q hq => (HRM.out.lt q hq).2
        have hwB : w.heap.size ≤ wr.heap.size := hsz
        have hB3 : wr.heap.size < w3.heap.size := Nat.lt_of_lt_of_le hza hb3.size
        obtain ⟨a7, c7, hv7, hc7, hcm7, -⟩ := hr7.form
        subst hv7
        clear hr7 hg7 hb3 HBN HMA HDA HWA HB5 HATA HBA hBr hza
        generalize hBB : wr.heap.size = B at *
        clear hBB
        go_cut [8] (fun v wx => v = .bool (hasI l xi) ∧ w3 = wx)
        case first =>
          by_cases hneg : xi < 0
          · have F := Lib.hid (hasI_out (l := l) (.inl hneg))
            go_wp2_with fail
            go_meet
            case rel => rw [F.out]; exact ⟨rfl, by trivial⟩
          · obtain ⟨j, rfl⟩ := Int.eq_ofNat_of_zero_le (show 0 ≤ xi by omega)
            by_cases hge : l.length ≤ j
            · have F := Lib.hid (hasI_out (l := l) (i := j) (.inr (by omega)))
              have g1 : (l.length : Int) ≤ j := by omega
              have g2 : decide (j < l.length) = false := by simp; omega
              have g3 : decide ((j : Int) < l.length) = false := by simp; omega
              go_wp2_with fail
              go_meet
              case rel => rw [F.out]; exact ⟨rfl, by trivial⟩
            · obtain ⟨a9, c9, e9, -, -, hat9⟩ := HM3.out.form
              injection e9 with e91 e92 e93
              subst e91
              obtain ⟨b9, off9, ha9, hcell⟩ := hat9.some (show j < l.length by omega)
              have hx : l[j]? = some l[j] := List.getElem?_eq_getElem _
              obtain ⟨d0, d1⟩ := hcell j _ hx
              have F := Lib.hid (hasI_some hx)
              have g1 : (j : Int) < l.length := by omega
              generalize l[j] = y at *
              clear hcell hx hat9 e92 e93
              subst ha9
              go_wp2_with fail
              go_meet
              case rel => rw [F.out]; exact ⟨rfl, by trivial⟩
        case rest =>
        obtain ⟨rfl, rfl⟩ := hcut
        have hk4 : x1 % 4 = 0 ∨ x1 % 4 = 1 ∨ x1 % 4 = 2 ∨ x1 % 4 = 3 := by omega
        have HK4 := Lib.hid hk4
        clear hk4
        rcases HK4.out with h4 | h4 | h4 | h4
        · as_aux_lemma =>
            have hG := Good.of_read HM.out
            have hnb := addL_bad hG xs
            have hAM : addM room xs = if (packM (addL l xs)).2 = 0 then ((packM (addL l xs)).1, (freeI l : Int), 0) else (⟨#[]⟩, 0, (packM (addL l xs)).2) := by simp [addM, HM.out]
            have hA0 := fun W => addS_any room xs W (by omega) (by omega)
            have HZN : Hid (∀ z ∈ addL l xs, z.2.size ≤ 9223372036854775807) := Lib.hid (addL_sizes hG (by omega))
            obtain ⟨i0, hi, hz0, hz1, hz2⟩ := info_parts Try.infoRSlot
            rcases packM_code hnb with h0 | hcode
            · rw [if_pos h0] at hAM
              have hrd := read_pack h0
              have hcode : packM (addL l xs) = ((packM (addL l xs)).1, 0) := Prod.ext rfl h0
              generalize trimS (addL l xs) = T at hrd
              generalize (packM (addL l xs)).1 = P1 at *
              have HRD := Lib.hid hrd
              clear hrd
              rw [hAM] at hA0
              have HA := fun W => Lib.hid (hA0 W)
              have HC := Lib.hid hcode
              clear hA0 hAM hnb hG hcode h0
              go_wp2_with fail
              go_loop [13] (fun v => ∃ j : Nat, j ≤ l.length ∧ v = .int .i64 j ∧ ∀ (i : Nat) (y : SlotD), i < j → l[i]? = some y → y.1 = true) (fun v => l.length - (intOf v).toNat)
              case atStart => exact ⟨0, Nat.zero_le _, rfl, fun i y hi' => absurd hi' (by omega)⟩
              case round =>
                obtain ⟨j, hj, rfl, hall⟩ := hrel
                have HAL := Lib.hid hall
                clear hall
                by_cases hlt2 : j < l.length
                · obtain ⟨g, c8, e8, hc8, hcm8⟩ := HR7.out.block (by omega)
                  injection e8 with e81 e82 e83
                  subst e81 e83
                  have hx : l[j]? = some l[j] := List.getElem?_eq_getElem _
                  obtain ⟨s0, s1⟩ := HR7.out.cells hx
                  have HX := Lib.hid hx
                  have g1 : (j : Int) < l.length := by omega
                  have hgB := HR7.out.ge
                  generalize l[j] = y at *
                  clear hx e82
                  cases hu9 : y.1
                  · have HFI := Lib.hid (freeI_eq HX.out hu9 HAL.out)
                    have hset : l.set j (true, xs) = addL l xs := by unfold addL; rw [HFI.out, if_pos hlt2]
                    have hrow4 := HR7.out.setBoth j true xs
                    rw [hset] at hrow4
                    have HLN : Hid ((addL l xs).length = l.length) := Lib.hid (by rw [← hset, List.length_set])
                    have hbW : Below (B + 1) w3 ((w3.setCell ⟨g, j * 2, none⟩ (.bool true)).setCell ⟨g, j * 2 + 1, none⟩ (.string xs)) := ((Below.refl _ _).setCell (p := ⟨g, j * 2, none⟩) hgB _).setCell (p := ⟨g, j * 2 + 1, none⟩) hgB _
                    have f0 := HR7.out.frozenAt (j * 2)
                    have f1 := HR7.out.frozenAt (j * 2 + 1)
                    rw [hu9] at s0
                    try rw [HFI.out] at HA
                    clear hu9 hset
                    have q9 : ((j : Int) == l.length) = false := by simp; omega
                    have q10 : (j == l.length) = false := by simp; omega
                    rw [← HLN.out] at hrow4
                    have hd0w := (hbW.cell (p := ⟨B, 0, none⟩) (by show B < B + 1; omega)).trans hd0
                    have hd1w := (hbW.cell (p := ⟨B, 1, none⟩) (by show B < B + 1; omega)).trans hd1
                    have hd2w := (hbW.cell (p := ⟨B, 2, none⟩) (by show B < B + 1; omega)).trans hd2
                    have HM4 := Lib.hid (HM3.out.keep HML.out (hbW.mono (by omega)))
                    have HB4 := Lib.hid (HB3.out.trans (hbW.mono (by omega)))
                    have hB4 : B < ((w3.setCell ⟨g, j * 2, none⟩ (.bool true)).setCell ⟨g, j * 2 + 1, none⟩ (.string xs)).heap.size := Nat.lt_of_lt_of_le hB3 hbW.size
                    go_wp2_with fail
                    have hcode := HC.out
                    refine (HA _).out.mono ?_
                    rintro e w5 ⟨rfl, hb5⟩
                    have HM5 := Lib.hid (HM4.out.below hb5)
                    have HB5 := Lib.hid (below_step hb5 HB4.out)
                    have hd0 := (hb5.cell (p := ⟨B, 0, none⟩) hB4).trans hd0w
                    have hB5 : B < w5.heap.size := Nat.lt_of_lt_of_le hB4 hb5.size
                    have hrow5 := hrow4.below hb5
                    obtain ⟨a5, c5, e5, hc5, hcm5, hat5⟩ := hrow5.form
                    have hP := rpack_any hat5 hc5 (by rw [HLN.out]; omega) hcm5 HZN.out
                    rw [← e5, HLN.out] at hP
                    rw [hcode] at hP
                    have HPK := Lib.hid hP
                    clear hb5 hrow5 e5 hat5 hc5 hcm5 hrow4 hd0w hd1w hd2w hP
                    clear s0 s1 f0 f1 hd1 hd2
                    go_wp2_with fail
                    refine HPK.out.mono ?_
                    rintro e w6 ⟨rfl, hb6⟩
                    have hd0' := (hb6.cell (p := ⟨B, 0, none⟩) hB5).trans hd0
                    have HB6 := Lib.hid (below_step hb6 HB5.out)
                    have HM6 := Lib.hid (HM5.out.below hb6)
                    clear hb6 hd0
                    have hp1 : P1.size ≤ 496 := by have := (readM_some HRD.out).2.2.2.2; omega
                    go_wp2_with fail
                    refine (rread12_any P1 _ (by omega)).mono ?_
                    rintro e w7 ⟨hb7, hr7⟩
                    rw [HRD.out] at hr7
                    obtain ⟨v7, rfl, hrow7⟩ := hr7
                    obtain ⟨am7, cm7, rfl, hcc7, hcm7', hat7⟩ := hrow7.form
                    have HLR := Lib.hid (leftRight_any HRD.out hat7 hcc7 (fun _ => hrow7.nilcap))
                    have HB7 := Lib.hid (below_step hb7 HB6.out)
                    have HR7' : Hid (RefRow w7 w.heap.size (.slice am7 T.length cm7) T) := Lib.hid (ownsRow_le hrow7 HB6.out.size)
                    clear hb7 hrow7 hat7 hcm7'
                    go_wp2_with fail
                    refine HLR.out.mono ?_
                    rintro e w8 ⟨rfl, hb8⟩
                    have HB8 := Lib.hid (below_step hb8 HB7.out)
                    have HR8 := Lib.hid (HR7'.out.below hb8)
                    clear hb8
                    go_wp2_with fail
                    go_roundw
                    case rel => exact ⟨k + 1, P1, T, by omega, by go_num, rfl, HRD.out, HR8.out, HB8.out⟩
                    case measure => simp [intOf]; omega
                  · rw [hu9] at s0
                    have HU := Lib.hid hu9
                    clear hu9
                    go_wp2_with fail
                    go_round
                    case rel =>
                      refine ⟨j + 1, by omega, by go_num, fun i y' hi' hy => ?_⟩
                      by_cases e : i = j
                      · subst e; have := HX.out.symm.trans hy; cases this; exact HU.out
                      · exact HAL.out i y' (by omega) hy
                    case measure => simp [intOf]; omega
                · obtain rfl : j = l.length := by omega
                  have HFI := Lib.hid (freeI_end HAL.out)
                  have hadd : addL l xs = l ++ [(true, xs)] := by unfold addL; rw [HFI.out, if_neg (by omega)]
                  try rw [HFI.out] at HA
                  have hown : w3.ownsRow (B + 1) 44 2 (.slice a7 l.length c7) l.length (slotCells l) := HR7.out
                  go_wp2_with (at_builtin; refine wpList_append_own _ rfl (.tmp 80) (.tmp 82) 41 rfl (B + 1) 44 i0 (.agg #[.bool false, .string ⟨#[]⟩]) 2 24 Try.underlying41 hi hz0 hz1 hz2 rfl (by decide) _ _ _ rfl (hown.alloc _) ⟨w3.heap.size, 0, none⟩ 1 1 [.bool false, .string ⟨#[]⟩] rfl rfl (cell_pair _ _ _ _) ?c2 ?c3 ?c4 ?c5 ?_)
                  case c2 => first | exact ⟨rfl, rfl⟩ | (intro u hu; simp at hu; rcases hu with rfl | rfl <;> rfl)
                  case c3 => first | omega | (unfold maxLen; omega)
                  case c4 => omega
                  case c5 => first | omega | (simp; omega)
                  intro v8 w33 hown3 hgrow _
                  have hb33 : Below (B + 1) w3 w33 := ((Below.refl _ _).alloc (by omega) _).grown hgrow (by simp; omega) (fun q hq => (hown.lt q hq).1)
                  rw [slotCells_snoc] at hown3
                  have hrow3 : RefRow w33 (B + 1) v8 (l ++ [(false, ⟨#[]⟩)]) := by unfold RefRow; rw [List.length_append]; exact hown3
                  obtain ⟨g, cap, hv', hcap, hcapm⟩ := hrow3.block (by simp)
                  rw [hv'] at hrow3
                  have hxk : (l ++ [((false, ⟨#[]⟩) : SlotD)])[l.length]? = some (false, ⟨#[]⟩) := by simp
                  obtain ⟨s0, s1⟩ := hrow3.cells hxk
                  have f0 := hrow3.frozenAt (l.length * 2)
                  have f1 := hrow3.frozenAt (l.length * 2 + 1)
                  have hset : (l ++ [((false, ⟨#[]⟩) : SlotD)]).set l.length (true, xs) = addL l xs := by rw [hadd]; simp
                  have hrow4 := hrow3.setBoth l.length true xs
                  rw [hset] at hrow4
                  have hgB := hrow3.ge
                  have hlen1 : (l ++ [((false, ⟨#[]⟩) : SlotD)]).length = l.length + 1 := by simp
                  have HLN : Hid ((addL l xs).length = l.length + 1) := Lib.hid (by rw [hadd]; simp)
                  rw [hlen1] at hrow4 hv'
                  rw [← HLN.out] at hrow4
                  have hbW : Below (B + 1) w3 ((w33.setCell ⟨g, l.length * 2, none⟩ (.bool true)).setCell ⟨g, l.length * 2 + 1, none⟩ (.string xs)) := (hb33.setCell (p := ⟨g, l.length * 2, none⟩) hgB _).setCell (p := ⟨g, l.length * 2 + 1, none⟩) hgB _
                  have l9 : (l.length : Int) < (l.length : Int) + 1 := by omega
                  have hd2a := (hb33.cell (p := ⟨B, 2, none⟩) (by show B < B + 1; omega)).trans hd2
                  rw [hv']
                  clear hown3 hgrow hrow3 hxk hset hlen1 hv' hown hcap hcapm hb33 hadd
                  have hd0w := (hbW.cell (p := ⟨B, 0, none⟩) (by show B < B + 1; omega)).trans hd0
                  have hd1w := (hbW.cell (p := ⟨B, 1, none⟩) (by show B < B + 1; omega)).trans hd1
                  have hd2w := (hbW.cell (p := ⟨B, 2, none⟩) (by show B < B + 1; omega)).trans hd2
                  have HM4 := Lib.hid (HM3.out.keep HML.out (hbW.mono (by omega)))
                  have HB4 := Lib.hid (HB3.out.trans (hbW.mono (by omega)))
                  have hB4 : B < ((w33.setCell ⟨g, l.length * 2, none⟩ (.bool true)).setCell ⟨g, l.length * 2 + 1, none⟩ (.string xs)).heap.size := Nat.lt_of_lt_of_le hB3 hbW.size
                  go_wp2_with fail
                  have hcode := HC.out
                  refine (HA _).out.mono ?_
                  rintro e w5 ⟨rfl, hb5⟩
                  have HM5 := Lib.hid (HM4.out.below hb5)
                  have HB5 := Lib.hid (below_step hb5 HB4.out)
                  have hd0 := (hb5.cell (p := ⟨B, 0, none⟩) hB4).trans hd0w
                  have hB5 : B < w5.heap.size := Nat.lt_of_lt_of_le hB4 hb5.size
                  have hrow5 := hrow4.below hb5
                  obtain ⟨a5, c5, e5, hc5, hcm5, hat5⟩ := hrow5.form
                  have hP := rpack_any hat5 hc5 (by rw [HLN.out]; omega) hcm5 HZN.out
                  rw [← e5, HLN.out] at hP
                  rw [hcode] at hP
                  have HPK := Lib.hid hP
                  clear hb5 hrow5 e5 hat5 hc5 hcm5 hrow4 hd0w hd1w hd2w hP
                  clear s0 s1 f0 f1 hd1 hd2 hd2a
                  go_wp2_with fail
                  refine HPK.out.mono ?_
                  rintro e w6 ⟨rfl, hb6⟩
                  have hd0' := (hb6.cell (p := ⟨B, 0, none⟩) hB5).trans hd0
                  have HB6 := Lib.hid (below_step hb6 HB5.out)
                  have HM6 := Lib.hid (HM5.out.below hb6)
                  clear hb6 hd0
                  have hp1 : P1.size ≤ 496 := by have := (readM_some HRD.out).2.2.2.2; omega
                  go_wp2_with fail
                  refine (rread12_any P1 _ (by omega)).mono ?_
                  rintro e w7 ⟨hb7, hr7⟩
                  rw [HRD.out] at hr7
                  obtain ⟨v7, rfl, hrow7⟩ := hr7
                  obtain ⟨am7, cm7, rfl, hcc7, hcm7', hat7⟩ := hrow7.form
                  have HLR := Lib.hid (leftRight_any HRD.out hat7 hcc7 (fun _ => hrow7.nilcap))
                  have HB7 := Lib.hid (below_step hb7 HB6.out)
                  have HR7' : Hid (RefRow w7 w.heap.size (.slice am7 T.length cm7) T) := Lib.hid (ownsRow_le hrow7 HB6.out.size)
                  clear hb7 hrow7 hat7 hcm7'
                  go_wp2_with fail
                  refine HLR.out.mono ?_
                  rintro e w8 ⟨rfl, hb8⟩
                  have HB8 := Lib.hid (below_step hb8 HB7.out)
                  have HR8 := Lib.hid (HR7'.out.below hb8)
                  clear hb8
                  go_wp2_with fail
                  go_roundw
                  case rel => exact ⟨k + 1, P1, T, by omega, by go_num, rfl, HRD.out, HR8.out, HB8.out⟩
                  case measure => simp [intOf]; omega
            · rw [hcode, if_neg (by decide)] at hAM
              rw [hAM] at hA0
              have HA := fun W => Lib.hid (hA0 W)
              have HC := Lib.hid hcode
              clear hA0 hAM hnb hG hcode
              go_wp2_with fail
              go_loop [13] (fun v => ∃ j : Nat, j ≤ l.length ∧ v = .int .i64 j ∧ ∀ (i : Nat) (y : SlotD), i < j → l[i]? = some y → y.1 = true) (fun v => l.length - (intOf v).toNat)
              case atStart => exact ⟨0, Nat.zero_le _, rfl, fun i y hi' => absurd hi' (by omega)⟩
              case round =>
                obtain ⟨j, hj, rfl, hall⟩ := hrel
                have HAL := Lib.hid hall
                clear hall
                by_cases hlt2 : j < l.length
                · obtain ⟨g, c8, e8, hc8, hcm8⟩ := HR7.out.block (by omega)
                  injection e8 with e81 e82 e83
                  subst e81 e83
                  have hx : l[j]? = some l[j] := List.getElem?_eq_getElem _
                  obtain ⟨s0, s1⟩ := HR7.out.cells hx
                  have HX := Lib.hid hx
                  have g1 : (j : Int) < l.length := by omega
                  have hgB := HR7.out.ge
                  generalize l[j] = y at *
                  clear hx e82
                  cases hu9 : y.1
                  · have HFI := Lib.hid (freeI_eq HX.out hu9 HAL.out)
                    have hset : l.set j (true, xs) = addL l xs := by unfold addL; rw [HFI.out, if_pos hlt2]
                    have hrow4 := HR7.out.setBoth j true xs
                    rw [hset] at hrow4
                    have HLN : Hid ((addL l xs).length = l.length) := Lib.hid (by rw [← hset, List.length_set])
                    have hbW : Below (B + 1) w3 ((w3.setCell ⟨g, j * 2, none⟩ (.bool true)).setCell ⟨g, j * 2 + 1, none⟩ (.string xs)) := ((Below.refl _ _).setCell (p := ⟨g, j * 2, none⟩) hgB _).setCell (p := ⟨g, j * 2 + 1, none⟩) hgB _
                    have f0 := HR7.out.frozenAt (j * 2)
                    have f1 := HR7.out.frozenAt (j * 2 + 1)
                    rw [hu9] at s0
                    try rw [HFI.out] at HA
                    clear hu9 hset
                    have q9 : ((j : Int) == l.length) = false := by simp; omega
                    have q10 : (j == l.length) = false := by simp; omega
                    rw [← HLN.out] at hrow4
                    have hd0w := (hbW.cell (p := ⟨B, 0, none⟩) (by show B < B + 1; omega)).trans hd0
                    have hd1w := (hbW.cell (p := ⟨B, 1, none⟩) (by show B < B + 1; omega)).trans hd1
                    have hd2w := (hbW.cell (p := ⟨B, 2, none⟩) (by show B < B + 1; omega)).trans hd2
                    have HM4 := Lib.hid (HM3.out.keep HML.out (hbW.mono (by omega)))
                    have HB4 := Lib.hid (HB3.out.trans (hbW.mono (by omega)))
                    have hB4 : B < ((w3.setCell ⟨g, j * 2, none⟩ (.bool true)).setCell ⟨g, j * 2 + 1, none⟩ (.string xs)).heap.size := Nat.lt_of_lt_of_le hB3 hbW.size
                    go_wp2_with fail
                    have hcode := HC.out
                    refine (HA _).out.mono ?_
                    rintro e w5 ⟨rfl, hb5⟩
                    have HM5 := Lib.hid (HM4.out.below hb5)
                    have HB5 := Lib.hid (below_step hb5 HB4.out)
                    have hd0 := (hb5.cell (p := ⟨B, 0, none⟩) hB4).trans hd0w
                    have hB5 : B < w5.heap.size := Nat.lt_of_lt_of_le hB4 hb5.size
                    have hrow5 := hrow4.below hb5
                    obtain ⟨a5, c5, e5, hc5, hcm5, hat5⟩ := hrow5.form
                    have hP := rpack_any hat5 hc5 (by rw [HLN.out]; omega) hcm5 HZN.out
                    rw [← e5, HLN.out] at hP
                    rw [hcode] at hP
                    have HPK := Lib.hid hP
                    clear hb5 hrow5 e5 hat5 hc5 hcm5 hrow4 hd0w hd1w hd2w hP
                    clear s0 s1 f0 f1 hd1 hd2
                    go_wp2_with fail
                    refine HPK.out.mono ?_
                    rintro e w6 ⟨rfl, hb6⟩
                    have hd0' := (hb6.cell (p := ⟨B, 0, none⟩) hB5).trans hd0
                    have HB6 := Lib.hid (below_step hb6 HB5.out)
                    have HM6 := Lib.hid (HM5.out.below hb6)
                    clear hb6 hd0
                    obtain ⟨am6, cm6, e6, hcc6, hcm6, hat6⟩ := HM6.out.form
                    have HLR := Lib.hid (leftRight_any (c := cm6) HM.out hat6 hcc6 (fun _ ha => by
                      injection e6 with e61 e62 e63
                      rw [← e63]; exact HNIL.out (by rw [e61]; exact ha)))
                    rw [← e6] at HLR
                    clear e6 hat6 hcc6 hcm6
                    go_wp2_with fail
                    refine HLR.out.mono ?_
                    rintro e w8 ⟨rfl, hb8⟩
                    have HB8 := Lib.hid (below_step hb8 HB6.out)
                    have HM8 := Lib.hid (HM6.out.below hb8)
                    clear hb8
                    go_wp2_with fail
                    go_roundw
                    case rel => exact ⟨k + 1, room, l, by omega, by go_num, rfl, HM.out, HM8.out, HB8.out⟩
                    case measure => simp [intOf]; omega
                  · rw [hu9] at s0
                    have HU := Lib.hid hu9
                    clear hu9
                    go_wp2_with fail
                    go_round
                    case rel =>
                      refine ⟨j + 1, by omega, by go_num, fun i y' hi' hy => ?_⟩
                      by_cases e : i = j
                      · subst e; have := HX.out.symm.trans hy; cases this; exact HU.out
                      · exact HAL.out i y' (by omega) hy
                    case measure => simp [intOf]; omega
                · obtain rfl : j = l.length := by omega
                  have HFI := Lib.hid (freeI_end HAL.out)
                  have hadd : addL l xs = l ++ [(true, xs)] := by unfold addL; rw [HFI.out, if_neg (by omega)]
                  try rw [HFI.out] at HA
                  have hown : w3.ownsRow (B + 1) 44 2 (.slice a7 l.length c7) l.length (slotCells l) := HR7.out
                  go_wp2_with (at_builtin; refine wpList_append_own _ rfl (.tmp 80) (.tmp 82) 41 rfl (B + 1) 44 i0 (.agg #[.bool false, .string ⟨#[]⟩]) 2 24 Try.underlying41 hi hz0 hz1 hz2 rfl (by decide) _ _ _ rfl (hown.alloc _) ⟨w3.heap.size, 0, none⟩ 1 1 [.bool false, .string ⟨#[]⟩] rfl rfl (cell_pair _ _ _ _) ?c2 ?c3 ?c4 ?c5 ?_)
                  case c2 => first | exact ⟨rfl, rfl⟩ | (intro u hu; simp at hu; rcases hu with rfl | rfl <;> rfl)
                  case c3 => first | omega | (unfold maxLen; omega)
                  case c4 => omega
                  case c5 => first | omega | (simp; omega)
                  intro v8 w33 hown3 hgrow _
                  have hb33 : Below (B + 1) w3 w33 := ((Below.refl _ _).alloc (by omega) _).grown hgrow (by simp; omega) (fun q hq => (hown.lt q hq).1)
                  rw [slotCells_snoc] at hown3
                  have hrow3 : RefRow w33 (B + 1) v8 (l ++ [(false, ⟨#[]⟩)]) := by unfold RefRow; rw [List.length_append]; exact hown3
                  obtain ⟨g, cap, hv', hcap, hcapm⟩ := hrow3.block (by simp)
                  rw [hv'] at hrow3
                  have hxk : (l ++ [((false, ⟨#[]⟩) : SlotD)])[l.length]? = some (false, ⟨#[]⟩) := by simp
                  obtain ⟨s0, s1⟩ := hrow3.cells hxk
                  have f0 := hrow3.frozenAt (l.length * 2)
                  have f1 := hrow3.frozenAt (l.length * 2 + 1)
                  have hset : (l ++ [((false, ⟨#[]⟩) : SlotD)]).set l.length (true, xs) = addL l xs := by rw [hadd]; simp
                  have hrow4 := hrow3.setBoth l.length true xs
                  rw [hset] at hrow4
                  have hgB := hrow3.ge
                  have hlen1 : (l ++ [((false, ⟨#[]⟩) : SlotD)]).length = l.length + 1 := by simp
                  have HLN : Hid ((addL l xs).length = l.length + 1) := Lib.hid (by rw [hadd]; simp)
                  rw [hlen1] at hrow4 hv'
                  rw [← HLN.out] at hrow4
                  have hbW : Below (B + 1) w3 ((w33.setCell ⟨g, l.length * 2, none⟩ (.bool true)).setCell ⟨g, l.length * 2 + 1, none⟩ (.string xs)) := (hb33.setCell (p := ⟨g, l.length * 2, none⟩) hgB _).setCell (p := ⟨g, l.length * 2 + 1, none⟩) hgB _
                  have l9 : (l.length : Int) < (l.length : Int) + 1 := by omega
                  have hd2a := (hb33.cell (p := ⟨B, 2, none⟩) (by show B < B + 1; omega)).trans hd2
                  rw [hv']
                  clear hown3 hgrow hrow3 hxk hset hlen1 hv' hown hcap hcapm hb33 hadd
                  have hd0w := (hbW.cell (p := ⟨B, 0, none⟩) (by show B < B + 1; omega)).trans hd0
                  have hd1w := (hbW.cell (p := ⟨B, 1, none⟩) (by show B < B + 1; omega)).trans hd1
                  have hd2w := (hbW.cell (p := ⟨B, 2, none⟩) (by show B < B + 1; omega)).trans hd2
                  have HM4 := Lib.hid (HM3.out.keep HML.out (hbW.mono (by omega)))
                  have HB4 := Lib.hid (HB3.out.trans (hbW.mono (by omega)))
                  have hB4 : B < ((w33.setCell ⟨g, l.length * 2, none⟩ (.bool true)).setCell ⟨g, l.length * 2 + 1, none⟩ (.string xs)).heap.size := Nat.lt_of_lt_of_le hB3 hbW.size
                  go_wp2_with fail
                  have hcode := HC.out
                  refine (HA _).out.mono ?_
                  rintro e w5 ⟨rfl, hb5⟩
                  have HM5 := Lib.hid (HM4.out.below hb5)
                  have HB5 := Lib.hid (below_step hb5 HB4.out)
                  have hd0 := (hb5.cell (p := ⟨B, 0, none⟩) hB4).trans hd0w
                  have hB5 : B < w5.heap.size := Nat.lt_of_lt_of_le hB4 hb5.size
                  have hrow5 := hrow4.below hb5
                  obtain ⟨a5, c5, e5, hc5, hcm5, hat5⟩ := hrow5.form
                  have hP := rpack_any hat5 hc5 (by rw [HLN.out]; omega) hcm5 HZN.out
                  rw [← e5, HLN.out] at hP
                  rw [hcode] at hP
                  have HPK := Lib.hid hP
                  clear hb5 hrow5 e5 hat5 hc5 hcm5 hrow4 hd0w hd1w hd2w hP
                  clear s0 s1 f0 f1 hd1 hd2 hd2a
                  go_wp2_with fail
                  refine HPK.out.mono ?_
                  rintro e w6 ⟨rfl, hb6⟩
                  have hd0' := (hb6.cell (p := ⟨B, 0, none⟩) hB5).trans hd0
                  have HB6 := Lib.hid (below_step hb6 HB5.out)
                  have HM6 := Lib.hid (HM5.out.below hb6)
                  clear hb6 hd0
                  obtain ⟨am6, cm6, e6, hcc6, hcm6, hat6⟩ := HM6.out.form
                  have HLR := Lib.hid (leftRight_any (c := cm6) HM.out hat6 hcc6 (fun _ ha => by
                    injection e6 with e61 e62 e63
                    rw [← e63]; exact HNIL.out (by rw [e61]; exact ha)))
                  rw [← e6] at HLR
                  clear e6 hat6 hcc6 hcm6
                  go_wp2_with fail
                  refine HLR.out.mono ?_
                  rintro e w8 ⟨rfl, hb8⟩
                  have HB8 := Lib.hid (below_step hb8 HB6.out)
                  have HM8 := Lib.hid (HM6.out.below hb8)
                  clear hb8
                  go_wp2_with fail
                  go_roundw
                  case rel => exact ⟨k + 1, room, l, by omega, by go_num, rfl, HM.out, HM8.out, HB8.out⟩
                  case measure => simp [intOf]; omega
        · as_aux_lemma =>
            cases hh : hasI l xi
            · have F := Lib.hid (show setM room xi xs = (⟨#[]⟩, 6) by simp [setM, HM.out, hh])
              have hA0 := fun W => setS_any room xi xs W (by omega) hxi.1 hxi.2 (by omega)
              rw [F.out] at hA0
              have HA := fun W => Lib.hid (hA0 W)
              have HZN : Hid (∀ z ∈ l, z.2.size ≤ 9223372036854775807) := Lib.hid (readM_size HM.out)
              have hrow4 := HR7.out
              have hbW : Below (B + 1) w3 w3 := Below.refl _ _
              clear hh hA0
              have hd0w := (hbW.cell (p := ⟨B, 0, none⟩) (by show B < B + 1; omega)).trans hd0
              have hd1w := (hbW.cell (p := ⟨B, 1, none⟩) (by show B < B + 1; omega)).trans hd1
              have hd2w := (hbW.cell (p := ⟨B, 2, none⟩) (by show B < B + 1; omega)).trans hd2
              have HM4 := Lib.hid (HM3.out.keep HML.out (hbW.mono (by omega)))
              have HB4 := Lib.hid (HB3.out.trans (hbW.mono (by omega)))
              have hB4 : B < w3.heap.size := Nat.lt_of_lt_of_le hB3 hbW.size
              go_wp2_with fail
              refine (HA _).out.mono ?_
              rintro e w5 ⟨rfl, hb5⟩
              have HM5 := Lib.hid (HM4.out.below hb5)
              have HB5 := Lib.hid (below_step hb5 HB4.out)
              have hd0 := (hb5.cell (p := ⟨B, 0, none⟩) hB4).trans hd0w
              have hB5 : B < w5.heap.size := Nat.lt_of_lt_of_le hB4 hb5.size
              have hrow5 := hrow4.below hb5
              obtain ⟨a5, c5, e5, hc5, hcm5, hat5⟩ := hrow5.form
              have hP := rpack_any hat5 hc5 (by omega) hcm5 HZN.out
              rw [← e5] at hP
              have HPK := Lib.hid hP
              clear hb5 hrow5 e5 hat5 hc5 hcm5 hrow4 hd0w hd1w hd2w hP
              clear hd1 hd2
              generalize (packM l).1 = R1 at *
              generalize (packM l).2 = R2 at *
              go_wp2_with fail
              refine HPK.out.mono ?_
              rintro e w6 ⟨rfl, hb6⟩
              have hd0' := (hb6.cell (p := ⟨B, 0, none⟩) hB5).trans hd0
              have HB6 := Lib.hid (below_step hb6 HB5.out)
              have HM6 := Lib.hid (HM5.out.below hb6)
              clear hb6 hd0
              obtain ⟨am6, cm6, e6, hcc6, hcm6, hat6⟩ := HM6.out.form
              have HLR := Lib.hid (leftRight_any (c := cm6) HM.out hat6 hcc6 (fun _ ha => by
                injection e6 with e61 e62 e63
                rw [← e63]; exact HNIL.out (by rw [e61]; exact ha)))
              rw [← e6] at HLR
              clear e6 hat6 hcc6 hcm6
              go_wp2_with fail
              refine HLR.out.mono ?_
              rintro e w8 ⟨rfl, hb8⟩
              have HB8 := Lib.hid (below_step hb8 HB6.out)
              have HM8 := Lib.hid (HM6.out.below hb8)
              clear hb8
              go_wp2_with fail
              go_roundw
              case rel => exact ⟨k + 1, room, l, by omega, by go_num, rfl, HM.out, HM8.out, HB8.out⟩
              case measure => simp [intOf]; omega
            · obtain ⟨hi0, hi1⟩ : 0 ≤ xi ∧ xi < l.length := by
                by_cases h : xi < 0 ∨ (l.length : Int) ≤ xi
                · rw [hasI_out h] at hh; cases hh
                · omega
              obtain ⟨j, rfl⟩ := Int.eq_ofNat_of_zero_le hi0
              have hG := Good.of_read HM.out
              have hnb := set_bad hG j (true, xs) (by rfl)
              have hAM : setM room j xs = packM (l.set j (true, xs)) := by simp [setM, HM.out, hh]
              have hA0 := fun W => setS_any room j xs W (by omega) hxi.1 hxi.2 (by omega)
              rw [hAM] at hA0
              obtain ⟨g, c8, e8, hc8, hcm8⟩ := HR7.out.block (by omega)
              injection e8 with e81 e82 e83
              subst e81 e83
              have hx : l[j]? = some l[j] := List.getElem?_eq_getElem _
              have hxu := (hasI_some hx).symm.trans hh
              obtain ⟨s0, s1⟩ := HR7.out.cells hx
              have g1 : (j : Int) < l.length := by omega
              have hgB := HR7.out.ge
              have hrow4 := HR7.out.setRec hx xs
              rw [hxu] at hrow4
              have hbW : Below (B + 1) w3 (w3.setCell ⟨g, j * 2 + 1, none⟩ (.string xs)) := (Below.refl _ _).setCell (p := ⟨g, j * 2 + 1, none⟩) hgB _
              have HLN : Hid ((l.set j (true, xs)).length = l.length) := Lib.hid (List.length_set ..)
              have HZN : Hid (∀ z ∈ (l.set j (true, xs)), z.2.size ≤ 9223372036854775807) := Lib.hid (sum_set_mem (x := (true, ⟨#[]⟩)) (readM_size HM.out) (by show ByteArray.size xs ≤ _; omega))
              have f0 := HR7.out.frozenAt (j * 2)
              have f1 := HR7.out.frozenAt (j * 2 + 1)
              rw [← HLN.out] at hrow4
              generalize l[j] = y at *
              clear hx hxu hh hi0 hi1 e82 hAM hG
              rcases packM_code hnb with h0 | hcode
              · have hrd := read_pack h0
                have hcode : packM (l.set j (true, xs)) = ((packM (l.set j (true, xs))).1, 0) := Prod.ext rfl h0
                rw [hcode] at hA0
                generalize trimS (l.set j (true, xs)) = T at hrd
                generalize (packM (l.set j (true, xs))).1 = P1 at *
                have HRD := Lib.hid hrd
                have HA := fun W => Lib.hid (hA0 W)
                have HC := Lib.hid hcode
                clear hrd hA0 hcode h0 hnb
                have hd0w := (hbW.cell (p := ⟨B, 0, none⟩) (by show B < B + 1; omega)).trans hd0
                have hd1w := (hbW.cell (p := ⟨B, 1, none⟩) (by show B < B + 1; omega)).trans hd1
                have hd2w := (hbW.cell (p := ⟨B, 2, none⟩) (by show B < B + 1; omega)).trans hd2
                have HM4 := Lib.hid (HM3.out.keep HML.out (hbW.mono (by omega)))
                have HB4 := Lib.hid (HB3.out.trans (hbW.mono (by omega)))
                have hB4 : B < (w3.setCell ⟨g, j * 2 + 1, none⟩ (.string xs)).heap.size := Nat.lt_of_lt_of_le hB3 hbW.size
                go_wp2_with fail
                have hcode := HC.out
                refine (HA _).out.mono ?_
                rintro e w5 ⟨rfl, hb5⟩
                have HM5 := Lib.hid (HM4.out.below hb5)
                have HB5 := Lib.hid (below_step hb5 HB4.out)
                have hd0 := (hb5.cell (p := ⟨B, 0, none⟩) hB4).trans hd0w
                have hB5 : B < w5.heap.size := Nat.lt_of_lt_of_le hB4 hb5.size
                have hrow5 := hrow4.below hb5
                obtain ⟨a5, c5, e5, hc5, hcm5, hat5⟩ := hrow5.form
                have hP := rpack_any hat5 hc5 (by rw [HLN.out]; omega) hcm5 HZN.out
                rw [← e5, HLN.out] at hP
                rw [hcode] at hP
                have HPK := Lib.hid hP
                clear hb5 hrow5 e5 hat5 hc5 hcm5 hrow4 hd0w hd1w hd2w hP
                clear s0 s1 f0 f1 hd1 hd2
                go_wp2_with fail
                refine HPK.out.mono ?_
                rintro e w6 ⟨rfl, hb6⟩
                have hd0' := (hb6.cell (p := ⟨B, 0, none⟩) hB5).trans hd0
                have HB6 := Lib.hid (below_step hb6 HB5.out)
                have HM6 := Lib.hid (HM5.out.below hb6)
                clear hb6 hd0
                have hp1 : P1.size ≤ 496 := by have := (readM_some HRD.out).2.2.2.2; omega
                go_wp2_with fail
                refine (rread12_any P1 _ (by omega)).mono ?_
                rintro e w7 ⟨hb7, hr7⟩
                rw [HRD.out] at hr7
                obtain ⟨v7, rfl, hrow7⟩ := hr7
                obtain ⟨am7, cm7, rfl, hcc7, hcm7', hat7⟩ := hrow7.form
                have HLR := Lib.hid (leftRight_any HRD.out hat7 hcc7 (fun _ => hrow7.nilcap))
                have HB7 := Lib.hid (below_step hb7 HB6.out)
                have HR7' : Hid (RefRow w7 w.heap.size (.slice am7 T.length cm7) T) := Lib.hid (ownsRow_le hrow7 HB6.out.size)
                clear hb7 hrow7 hat7 hcm7'
                go_wp2_with fail
                refine HLR.out.mono ?_
                rintro e w8 ⟨rfl, hb8⟩
                have HB8 := Lib.hid (below_step hb8 HB7.out)
                have HR8 := Lib.hid (HR7'.out.below hb8)
                clear hb8
                go_wp2_with fail
                go_roundw
                case rel => exact ⟨k + 1, P1, T, by omega, by go_num, rfl, HRD.out, HR8.out, HB8.out⟩
                case measure => simp [intOf]; omega
              · rw [hcode] at hA0
                have HA := fun W => Lib.hid (hA0 W)
                have HC := Lib.hid hcode
                clear hA0 hcode hnb
                have hd0w := (hbW.cell (p := ⟨B, 0, none⟩) (by show B < B + 1; omega)).trans hd0
                have hd1w := (hbW.cell (p := ⟨B, 1, none⟩) (by show B < B + 1; omega)).trans hd1
                have hd2w := (hbW.cell (p := ⟨B, 2, none⟩) (by show B < B + 1; omega)).trans hd2
                have HM4 := Lib.hid (HM3.out.keep HML.out (hbW.mono (by omega)))
                have HB4 := Lib.hid (HB3.out.trans (hbW.mono (by omega)))
                have hB4 : B < (w3.setCell ⟨g, j * 2 + 1, none⟩ (.string xs)).heap.size := Nat.lt_of_lt_of_le hB3 hbW.size
                go_wp2_with fail
                have hcode := HC.out
                refine (HA _).out.mono ?_
                rintro e w5 ⟨rfl, hb5⟩
                have HM5 := Lib.hid (HM4.out.below hb5)
                have HB5 := Lib.hid (below_step hb5 HB4.out)
                have hd0 := (hb5.cell (p := ⟨B, 0, none⟩) hB4).trans hd0w
                have hB5 : B < w5.heap.size := Nat.lt_of_lt_of_le hB4 hb5.size
                have hrow5 := hrow4.below hb5
                obtain ⟨a5, c5, e5, hc5, hcm5, hat5⟩ := hrow5.form
                have hP := rpack_any hat5 hc5 (by rw [HLN.out]; omega) hcm5 HZN.out
                rw [← e5, HLN.out] at hP
                rw [hcode] at hP
                have HPK := Lib.hid hP
                clear hb5 hrow5 e5 hat5 hc5 hcm5 hrow4 hd0w hd1w hd2w hP
                clear s0 s1 f0 f1 hd1 hd2
                go_wp2_with fail
                refine HPK.out.mono ?_
                rintro e w6 ⟨rfl, hb6⟩
                have hd0' := (hb6.cell (p := ⟨B, 0, none⟩) hB5).trans hd0
                have HB6 := Lib.hid (below_step hb6 HB5.out)
                have HM6 := Lib.hid (HM5.out.below hb6)
                clear hb6 hd0
                obtain ⟨am6, cm6, e6, hcc6, hcm6, hat6⟩ := HM6.out.form
                have HLR := Lib.hid (leftRight_any (c := cm6) HM.out hat6 hcc6 (fun _ ha => by
                  injection e6 with e61 e62 e63
                  rw [← e63]; exact HNIL.out (by rw [e61]; exact ha)))
                rw [← e6] at HLR
                clear e6 hat6 hcc6 hcm6
                go_wp2_with fail
                refine HLR.out.mono ?_
                rintro e w8 ⟨rfl, hb8⟩
                have HB8 := Lib.hid (below_step hb8 HB6.out)
                have HM8 := Lib.hid (HM6.out.below hb8)
                clear hb8
                go_wp2_with fail
                go_roundw
                case rel => exact ⟨k + 1, room, l, by omega, by go_num, rfl, HM.out, HM8.out, HB8.out⟩
                case measure => simp [intOf]; omega
        · as_aux_lemma =>
            cases hh : hasI l xi
            · have F := Lib.hid (show delM room xi = (⟨#[]⟩, 6) by simp [delM, HM.out, hh])
              have hA0 := fun W => delS_any room xi W (by omega) hxi.1 hxi.2
              rw [F.out] at hA0
              have HA := fun W => Lib.hid (hA0 W)
              have HZN : Hid (∀ z ∈ l, z.2.size ≤ 9223372036854775807) := Lib.hid (readM_size HM.out)
              have hrow4 := HR7.out
              have hbW : Below (B + 1) w3 w3 := Below.refl _ _
              clear hh hA0
              have hd0w := (hbW.cell (p := ⟨B, 0, none⟩) (by show B < B + 1; omega)).trans hd0
              have hd1w := (hbW.cell (p := ⟨B, 1, none⟩) (by show B < B + 1; omega)).trans hd1
              have hd2w := (hbW.cell (p := ⟨B, 2, none⟩) (by show B < B + 1; omega)).trans hd2
              have HM4 := Lib.hid (HM3.out.keep HML.out (hbW.mono (by omega)))
              have HB4 := Lib.hid (HB3.out.trans (hbW.mono (by omega)))
              have hB4 : B < w3.heap.size := Nat.lt_of_lt_of_le hB3 hbW.size
              go_wp2_with fail
              refine (HA _).out.mono ?_
              rintro e w5 ⟨rfl, hb5⟩
              have HM5 := Lib.hid (HM4.out.below hb5)
              have HB5 := Lib.hid (below_step hb5 HB4.out)
              have hd0 := (hb5.cell (p := ⟨B, 0, none⟩) hB4).trans hd0w
              have hB5 : B < w5.heap.size := Nat.lt_of_lt_of_le hB4 hb5.size
              have hrow5 := hrow4.below hb5
              obtain ⟨a5, c5, e5, hc5, hcm5, hat5⟩ := hrow5.form
              have hP := rpack_any hat5 hc5 (by omega) hcm5 HZN.out
              rw [← e5] at hP
              have HPK := Lib.hid hP
              clear hb5 hrow5 e5 hat5 hc5 hcm5 hrow4 hd0w hd1w hd2w hP
              clear hd1 hd2
              generalize (packM l).1 = R1 at *
              generalize (packM l).2 = R2 at *
              go_wp2_with fail
              refine HPK.out.mono ?_
              rintro e w6 ⟨rfl, hb6⟩
              have hd0' := (hb6.cell (p := ⟨B, 0, none⟩) hB5).trans hd0
              have HB6 := Lib.hid (below_step hb6 HB5.out)
              have HM6 := Lib.hid (HM5.out.below hb6)
              clear hb6 hd0
              obtain ⟨am6, cm6, e6, hcc6, hcm6, hat6⟩ := HM6.out.form
              have HLR := Lib.hid (leftRight_any (c := cm6) HM.out hat6 hcc6 (fun _ ha => by
                injection e6 with e61 e62 e63
                rw [← e63]; exact HNIL.out (by rw [e61]; exact ha)))
              rw [← e6] at HLR
              clear e6 hat6 hcc6 hcm6
              go_wp2_with fail
              refine HLR.out.mono ?_
              rintro e w8 ⟨rfl, hb8⟩
              have HB8 := Lib.hid (below_step hb8 HB6.out)
              have HM8 := Lib.hid (HM6.out.below hb8)
              clear hb8
              go_wp2_with fail
              go_roundw
              case rel => exact ⟨k + 1, room, l, by omega, by go_num, rfl, HM.out, HM8.out, HB8.out⟩
              case measure => simp [intOf]; omega
            · obtain ⟨hi0, hi1⟩ : 0 ≤ xi ∧ xi < l.length := by
                by_cases h : xi < 0 ∨ (l.length : Int) ≤ xi
                · rw [hasI_out h] at hh; cases hh
                · omega
              obtain ⟨j, rfl⟩ := Int.eq_ofNat_of_zero_le hi0
              have hG := Good.of_read HM.out
              have hnb := set_bad hG j (false, ⟨#[]⟩) (by rfl)
              have hAM : delM room j = packM (l.set j (false, ⟨#[]⟩)) := by simp [delM, HM.out, hh]
              have hA0 := fun W => delS_any room j W (by omega) hxi.1 hxi.2
              rw [hAM] at hA0
              obtain ⟨g, c8, e8, hc8, hcm8⟩ := HR7.out.block (by omega)
              injection e8 with e81 e82 e83
              subst e81 e83
              have hx : l[j]? = some l[j] := List.getElem?_eq_getElem _
              have hxu := (hasI_some hx).symm.trans hh
              obtain ⟨s0, s1⟩ := HR7.out.cells hx
              have g1 : (j : Int) < l.length := by omega
              have hgB := HR7.out.ge
              have hrow4 := HR7.out.setBoth j false ⟨#[]⟩
              have hbW : Below (B + 1) w3 ((w3.setCell ⟨g, j * 2, none⟩ (.bool false)).setCell ⟨g, j * 2 + 1, none⟩ (.string ⟨#[]⟩)) := ((Below.refl _ _).setCell (p := ⟨g, j * 2, none⟩) hgB _).setCell (p := ⟨g, j * 2 + 1, none⟩) hgB _
              have HLN : Hid ((l.set j (false, ⟨#[]⟩)).length = l.length) := Lib.hid (List.length_set ..)
              have HZN : Hid (∀ z ∈ (l.set j (false, ⟨#[]⟩)), z.2.size ≤ 9223372036854775807) := Lib.hid (sum_set_mem (x := (true, ⟨#[]⟩)) (readM_size HM.out) (by show ByteArray.size (⟨#[]⟩ : ByteArray) ≤ _; exact Nat.zero_le _))
              have f0 := HR7.out.frozenAt (j * 2)
              have f1 := HR7.out.frozenAt (j * 2 + 1)
              rw [← HLN.out] at hrow4
              generalize l[j] = y at *
              clear hx hxu hh hi0 hi1 e82 hAM hG
              rcases packM_code hnb with h0 | hcode
              · have hrd := read_pack h0
                have hcode : packM (l.set j (false, ⟨#[]⟩)) = ((packM (l.set j (false, ⟨#[]⟩))).1, 0) := Prod.ext rfl h0
                rw [hcode] at hA0
                generalize trimS (l.set j (false, ⟨#[]⟩)) = T at hrd
                generalize (packM (l.set j (false, ⟨#[]⟩))).1 = P1 at *
                have HRD := Lib.hid hrd
                have HA := fun W => Lib.hid (hA0 W)
                have HC := Lib.hid hcode
                clear hrd hA0 hcode h0 hnb
                have hd0w := (hbW.cell (p := ⟨B, 0, none⟩) (by show B < B + 1; omega)).trans hd0
                have hd1w := (hbW.cell (p := ⟨B, 1, none⟩) (by show B < B + 1; omega)).trans hd1
                have hd2w := (hbW.cell (p := ⟨B, 2, none⟩) (by show B < B + 1; omega)).trans hd2
                have HM4 := Lib.hid (HM3.out.keep HML.out (hbW.mono (by omega)))
                have HB4 := Lib.hid (HB3.out.trans (hbW.mono (by omega)))
                have hB4 : B < ((w3.setCell ⟨g, j * 2, none⟩ (.bool false)).setCell ⟨g, j * 2 + 1, none⟩ (.string ⟨#[]⟩)).heap.size := Nat.lt_of_lt_of_le hB3 hbW.size
                go_wp2_with fail
                have hcode := HC.out
                refine (HA _).out.mono ?_
                rintro e w5 ⟨rfl, hb5⟩
                have HM5 := Lib.hid (HM4.out.below hb5)
                have HB5 := Lib.hid (below_step hb5 HB4.out)
                have hd0 := (hb5.cell (p := ⟨B, 0, none⟩) hB4).trans hd0w
                have hB5 : B < w5.heap.size := Nat.lt_of_lt_of_le hB4 hb5.size
                have hrow5 := hrow4.below hb5
                obtain ⟨a5, c5, e5, hc5, hcm5, hat5⟩ := hrow5.form
                have hP := rpack_any hat5 hc5 (by rw [HLN.out]; omega) hcm5 HZN.out
                rw [← e5, HLN.out] at hP
                rw [hcode] at hP
                have HPK := Lib.hid hP
                clear hb5 hrow5 e5 hat5 hc5 hcm5 hrow4 hd0w hd1w hd2w hP
                clear s0 s1 f0 f1 hd1 hd2
                go_wp2_with fail
                refine HPK.out.mono ?_
                rintro e w6 ⟨rfl, hb6⟩
                have hd0' := (hb6.cell (p := ⟨B, 0, none⟩) hB5).trans hd0
                have HB6 := Lib.hid (below_step hb6 HB5.out)
                have HM6 := Lib.hid (HM5.out.below hb6)
                clear hb6 hd0
                have hp1 : P1.size ≤ 496 := by have := (readM_some HRD.out).2.2.2.2; omega
                go_wp2_with fail
                refine (rread12_any P1 _ (by omega)).mono ?_
                rintro e w7 ⟨hb7, hr7⟩
                rw [HRD.out] at hr7
                obtain ⟨v7, rfl, hrow7⟩ := hr7
                obtain ⟨am7, cm7, rfl, hcc7, hcm7', hat7⟩ := hrow7.form
                have HLR := Lib.hid (leftRight_any HRD.out hat7 hcc7 (fun _ => hrow7.nilcap))
                have HB7 := Lib.hid (below_step hb7 HB6.out)
                have HR7' : Hid (RefRow w7 w.heap.size (.slice am7 T.length cm7) T) := Lib.hid (ownsRow_le hrow7 HB6.out.size)
                clear hb7 hrow7 hat7 hcm7'
                go_wp2_with fail
                refine HLR.out.mono ?_
                rintro e w8 ⟨rfl, hb8⟩
                have HB8 := Lib.hid (below_step hb8 HB7.out)
                have HR8 := Lib.hid (HR7'.out.below hb8)
                clear hb8
                go_wp2_with fail
                go_roundw
                case rel => exact ⟨k + 1, P1, T, by omega, by go_num, rfl, HRD.out, HR8.out, HB8.out⟩
                case measure => simp [intOf]; omega
              · rw [hcode] at hA0
                have HA := fun W => Lib.hid (hA0 W)
                have HC := Lib.hid hcode
                clear hA0 hcode hnb
                have hd0w := (hbW.cell (p := ⟨B, 0, none⟩) (by show B < B + 1; omega)).trans hd0
                have hd1w := (hbW.cell (p := ⟨B, 1, none⟩) (by show B < B + 1; omega)).trans hd1
                have hd2w := (hbW.cell (p := ⟨B, 2, none⟩) (by show B < B + 1; omega)).trans hd2
                have HM4 := Lib.hid (HM3.out.keep HML.out (hbW.mono (by omega)))
                have HB4 := Lib.hid (HB3.out.trans (hbW.mono (by omega)))
                have hB4 : B < ((w3.setCell ⟨g, j * 2, none⟩ (.bool false)).setCell ⟨g, j * 2 + 1, none⟩ (.string ⟨#[]⟩)).heap.size := Nat.lt_of_lt_of_le hB3 hbW.size
                go_wp2_with fail
                have hcode := HC.out
                refine (HA _).out.mono ?_
                rintro e w5 ⟨rfl, hb5⟩
                have HM5 := Lib.hid (HM4.out.below hb5)
                have HB5 := Lib.hid (below_step hb5 HB4.out)
                have hd0 := (hb5.cell (p := ⟨B, 0, none⟩) hB4).trans hd0w
                have hB5 : B < w5.heap.size := Nat.lt_of_lt_of_le hB4 hb5.size
                have hrow5 := hrow4.below hb5
                obtain ⟨a5, c5, e5, hc5, hcm5, hat5⟩ := hrow5.form
                have hP := rpack_any hat5 hc5 (by rw [HLN.out]; omega) hcm5 HZN.out
                rw [← e5, HLN.out] at hP
                rw [hcode] at hP
                have HPK := Lib.hid hP
                clear hb5 hrow5 e5 hat5 hc5 hcm5 hrow4 hd0w hd1w hd2w hP
                clear s0 s1 f0 f1 hd1 hd2
                go_wp2_with fail
                refine HPK.out.mono ?_
                rintro e w6 ⟨rfl, hb6⟩
                have hd0' := (hb6.cell (p := ⟨B, 0, none⟩) hB5).trans hd0
                have HB6 := Lib.hid (below_step hb6 HB5.out)
                have HM6 := Lib.hid (HM5.out.below hb6)
                clear hb6 hd0
                obtain ⟨am6, cm6, e6, hcc6, hcm6, hat6⟩ := HM6.out.form
                have HLR := Lib.hid (leftRight_any (c := cm6) HM.out hat6 hcc6 (fun _ ha => by
                  injection e6 with e61 e62 e63
                  rw [← e63]; exact HNIL.out (by rw [e61]; exact ha)))
                rw [← e6] at HLR
                clear e6 hat6 hcc6 hcm6
                go_wp2_with fail
                refine HLR.out.mono ?_
                rintro e w8 ⟨rfl, hb8⟩
                have HB8 := Lib.hid (below_step hb8 HB6.out)
                have HM8 := Lib.hid (HM6.out.below hb8)
                clear hb8
                go_wp2_with fail
                go_roundw
                case rel => exact ⟨k + 1, room, l, by omega, by go_num, rfl, HM.out, HM8.out, HB8.out⟩
                case measure => simp [intOf]; omega
        · as_aux_lemma =>
            cases hh : hasI l xi
            · have F := Lib.hid (show getM room xi = (⟨#[]⟩, 6) by simp [getM, HM.out, hh])
              have HG := Lib.hid (getS_any room xi w3 (by omega) hxi.1 hxi.2)
              rw [F.out] at HG
              clear hh
              go_wp2_with fail
              refine HG.out.mono ?_
              rintro e w4 ⟨rfl, hb4⟩
              have HB4 := Lib.hid (below_step hb4 HB3.out)
              have HM4 := Lib.hid (HM3.out.below hb4)
              clear hb4
              go_wp2_with fail
              go_roundw
              case rel => exact ⟨k + 1, room, l, by omega, by go_num, rfl, HM.out, HM4.out, HB4.out⟩
              case measure => simp [intOf]; omega
            · have F := Lib.hid (show getM room xi = (recI l xi, 0) by simp [getM, HM.out, hh])
              have HG := Lib.hid (getS_any room xi w3 (by omega) hxi.1 hxi.2)
              rw [F.out] at HG
              obtain ⟨hi0, hi1⟩ : 0 ≤ xi ∧ xi < l.length := by
                by_cases h : xi < 0 ∨ (l.length : Int) ≤ xi
                · rw [hasI_out h] at hh; cases hh
                · omega
              obtain ⟨j, rfl⟩ := Int.eq_ofNat_of_zero_le hi0
              obtain ⟨a9, c9, e9, -, -, hat9⟩ := HM3.out.form
              injection e9 with e91 e92 e93
              subst e91
              obtain ⟨b9, off9, ha9, hcell⟩ := hat9.some (show j < l.length by omega)
              have hx : l[j]? = some l[j] := List.getElem?_eq_getElem _
              obtain ⟨d0, d1⟩ := hcell j _ hx
              have F2 := Lib.hid (show recI l j = l[j].2 by simp [recI, hx])
              rw [F2.out] at HG
              generalize l[j] = y at *
              clear hh hcell hx hat9 e92 e93
              subst ha9
              go_wp2_with fail
              refine HG.out.mono ?_
              rintro e w4 ⟨rfl, hb4⟩
              have HB4 := Lib.hid (below_step hb4 HB3.out)
              have HM4 := Lib.hid (HM3.out.below hb4)
              have hd1' := (hb4.cell (p := ⟨B, 1, none⟩) hB3).trans hd1
              have d1' := (hb4.cell (p := ⟨b9, off9 + j * 2 + 1, none⟩) (cell_lt d1)).trans d1
              clear hb4 d0 d1 hd0 hd1 hd2
              go_wp2_with fail
              go_roundw
              case rel => exact ⟨k + 1, room, l, by omega, by go_num, rfl, HM.out, HM4.out, HB4.out⟩
              case measure => simp [intOf]; omega
      · obtain rfl : k = n1 := by omega
        clear hb
        go_wp2_with fail
        go_ret
        exact ⟨rfl, HB.out⟩

end Go.Proofs.Yteijagojagfecaa

