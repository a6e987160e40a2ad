/- leftRight: a record of just so many bytes goes in, and none of one more. -/
import Derived.Test.YteijagojagfecaaSlotPlainWalk
import Derived.Test.YteijagojagfecaaSlotModel
import Derived.Laws.AppendOwnNone
namespace Go.Proofs.Yteijagojagfecaa
open Go.RowKit Go.Joins
set_option linter.unusedVariables false

theorem RefRow.block {w : World} {base : Nat} {v : Value} {l : List SlotD} (h : RefRow w base v l) (hl : 0 < l.length) : ∃ g c, v = .slice (some ⟨g, 0, none⟩) l.length c ∧ l.length ≤ c ∧ c ≤ 9223372036854775807 := by
  have m : maxLen = 9223372036854775807 := rfl
  rcases h.2 with ⟨rfl, h0⟩ | ⟨g, cap, cur, rfl, _, hg, hnc, hcm, _⟩
  · omega
  · exact ⟨g, cap, rfl, hnc, by omega⟩
theorem RefRow.setRec {w : World} {base g c : Nat} {l : List SlotD} {k : Nat} {x : SlotD} (h : RefRow w base (.slice (some ⟨g, 0, none⟩) l.length c) l) (hx : l[k]? = some x) (s : ByteArray) :
    RefRow (w.setCell ⟨g, k * 2 + 1, none⟩ (.string s)) base (.slice (some ⟨g, 0, none⟩) l.length c) (l.set k (x.1, s)) := by
  have := (World.ownsRow.stored h (k * 2 + 1) (.string s)).1
  rw [slotCells_set1 l s k x hx] at this
  unfold RefRow
  rw [List.length_set]
  exact this
theorem RefRow.setBoth {w : World} {base g c : Nat} {l : List SlotD} (h : RefRow w base (.slice (some ⟨g, 0, none⟩) l.length c) l) (k : Nat) (u : Bool) (s : ByteArray) :
    RefRow ((w.setCell ⟨g, k * 2, none⟩ (.bool u)).setCell ⟨g, k * 2 + 1, none⟩ (.string s)) base (.slice (some ⟨g, 0, none⟩) l.length c) (l.set k (u, s)) := by
  have := (World.ownsRow.stored (World.ownsRow.stored h (k * 2) (.bool u)).1 (k * 2 + 1) (.string s)).1
  rw [slotCells_set] at this
  unfold RefRow
  rw [List.length_set]
  exact this
theorem RefRow.ge {w : World} {base g n c : Nat} {l : List SlotD} (h : RefRow w base (.slice (some ⟨g, 0, none⟩) n c) l) : base ≤ g := (h.lt g rfl).1
theorem RefRow.cells {w : World} {base g c : Nat} {l : List SlotD} {k : Nat} {x : SlotD} (h : RefRow w base (.slice (some ⟨g, 0, none⟩) l.length c) l) (hx : l[k]? = some x) :
    w.cell? ⟨g, k * 2, none⟩ = some (.bool x.1) ∧ w.cell? ⟨g, k * 2 + 1, none⟩ = some (.string x.2) := by
  have hi := (List.getElem?_eq_some_iff.1 hx).1
  obtain ⟨e1, e2⟩ := slotCells_get l k x hx
  have x1 := h.cellAt (k * 2) (by omega)
  have x2 := h.cellAt (k * 2 + 1) (by omega)
  rw [e1] at x1; rw [e2] at x2
  exact ⟨x1, x2⟩

theorem freeI_eq {l : List SlotD} {k : Nat} {x : SlotD} (hx : l[k]? = some x) (hu : x.1 = false) (h : ∀ j y, j < k → l[j]? = some y → y.1 = true) : freeI l = k := by
  obtain ⟨hk, rfl⟩ := List.getElem?_eq_some_iff.1 hx
  unfold freeI
  rw [List.findIdx_eq hk]
  refine ⟨by rw [hu]; rfl, fun j hj => ?_⟩
  rw [h j _ hj (List.getElem?_eq_getElem _)]; rfl
theorem freeI_end {l : List SlotD} (h : ∀ j y, j < l.length → l[j]? = some y → y.1 = true) : freeI l = l.length := by
  unfold freeI
  rw [List.findIdx_eq_length]
  intro x hx
  obtain ⟨j, hj⟩ := List.mem_iff_getElem?.1 hx
  rw [h j x (List.getElem?_eq_some_iff.1 hj).1 hj]; rfl
theorem addL_sizes {l : List SlotD} {s : ByteArray} (h : Good l) (hs : s.size ≤ 9223372036854775807) : ∀ z ∈ addL l s, z.2.size ≤ 9223372036854775807 :=
  addL_size (fun z hz => by have := sumR_mem hz; have := h.fits; omega) hs

theorem slotCells_inv {l : List SlotD} {j : Nat} {u : Value} (h : (slotCells l)[j]? = some u) : ∃ (i : Nat) (x : SlotD), l[i]? = some x ∧ ((j = i * 2 ∧ u = .bool x.1) ∨ (j = i * 2 + 1 ∧ u = .string x.2)) := by
  have hj := (List.getElem?_eq_some_iff.1 h).1
  rw [slotCells_length] at hj
  have hi : j / 2 < l.length := by omega
  obtain ⟨e1, e2⟩ := slotCells_get l (j / 2) l[j / 2] (List.getElem?_eq_getElem hi)
  refine ⟨j / 2, l[j / 2], List.getElem?_eq_getElem hi, ?_⟩
  by_cases hp : j % 2 = 0
  · left
    have e : j / 2 * 2 = j := by omega
    rw [e, h] at e1
    exact ⟨e.symm, Option.some.inj e1⟩
  · right
    have e : j / 2 * 2 + 1 = j := by omega
    rw [e, h] at e2
    exact ⟨e.symm, Option.some.inj e2⟩
theorem slotCells_one (l : List SlotD) : ∀ u ∈ slotCells l, u.oneCell' = true := by
  intro u hu
  obtain ⟨j, hj⟩ := List.mem_iff_getElem?.1 hu
  obtain ⟨i, x, _, ⟨_, rfl⟩ | ⟨_, rfl⟩⟩ := slotCells_inv hj <;> rfl
theorem slots_news {w : World} {ad : Addr} {l : List SlotD} (h : SlotsAt w (some ad) l) : ∀ j u, (slotCells l)[j]? = some u → w.cell? (ad.add j) = some u := by
  intro j u hu
  obtain ⟨i, x, hx, hc⟩ := slotCells_inv hu
  obtain ⟨b, off, ha, hcell⟩ := h.some (List.getElem?_eq_some_iff.1 hx).1
  injection ha with ha
  subst ha
  have ea : (⟨b, off, none⟩ : Addr).add j = ⟨b, off + j, none⟩ := by unfold Addr.add; split <;> simp_all
  rw [ea]
  rcases hc with ⟨rfl, rfl⟩ | ⟨rfl, rfl⟩
  · exact (hcell i x hx).1
  · exact (hcell i x hx).2
theorem build_nil (w : World) (base : Nat) (hb : base ≤ w.heap.size) : (w.alloc (.cells #[] 44)).ownsRow base 44 2 (.slice (some ⟨w.heap.size, 0, none⟩) 0 0) 0 [] :=
  ⟨rfl, .inr ⟨w.heap.size, 0, #[], rfl, hb, heap_alloc_new w _, Nat.le_refl _, Nat.zero_le _, rfl, rfl⟩⟩

set_option maxRecDepth 100000 in
set_option maxHeartbeats 4000000 in
theorem leftRight_any {w : World} {room : ByteArray} {a : Option Addr} {l : List SlotD} {c : Nat} (hm : readM room = some l) (h : SlotsAt w a l) (hc : l.length ≤ c) (hnil : l = [] → a = none → c = 0) :
    Calls Try.prog 28 #[.string room, .slice a l.length c] w fun e w' => e = .returned (.bool true) ∧ Below w.heap.size w w' := by
  have hG := Good.of_read hm
  have hrs := (readM_some hm).2.2.2.2
  have hll := (readM_len hm).1
  have hle := leftM_good hm
  have hL := fun W => leftS_any room W (by omega)
  rw [hle] at hL
  have hfree := freeI_le l
  have hrb : roomI l ≤ 494 := by have := moreL_bd l; unfold roomI; omega
  obtain ⟨i0, hi, hz0, hz1, hz2⟩ := info_parts Try.infoRSlot
  obtain ⟨i1, hi', hz0', hz1', hz2'⟩ := info_parts Try.infoByte
  have HL := fun W => Lib.hid (hL W)
  have H := Lib.hid h
  have GG := Lib.hid hG
  have HNIL := Lib.hid hnil
  clear hL h hG hm hle hrs hnil
  go_enter Try.func28, Try.ntmps28
  go_wp2_with fail
  refine (HL _).out.mono ?_
  rintro e w1 ⟨rfl, hb1⟩
  have HB1 := Lib.hid hb1
  have HS1 := Lib.hid (H.out.below hb1)
  clear hb1 HL
  go_upto_block 0 with (fail)
  go_cut [6] (fun v wx => v = .int .i64 (freeI l : Nat) ∧ w1 = wx)
  case first =>
    go_wp2_with fail
    go_loop [6] (fun v => ∃ k : Nat, k ≤ l.length ∧ v = .int .i64 k ∧ ∀ (j : Nat) (y : SlotD), j < k → l[j]? = some y → y.1 = true) (fun v => l.length - (intOf v).toNat)
    case atStart => exact ⟨0, Nat.zero_le _, rfl, fun j y hj => absurd hj (by omega)⟩
    case round =>
      obtain ⟨k, hk, rfl, hall⟩ := hrel
      have HA := Lib.hid hall
      clear hall
      by_cases hlt : k < l.length
      · obtain ⟨b, off, ha, hcell⟩ := HS1.out.some hlt
        have hx : l[k]? = some l[k] := List.getElem?_eq_getElem _
        obtain ⟨c0, c1⟩ := hcell k _ hx
        have HX := Lib.hid hx
        generalize l[k] = x at *
        clear hcell hx
        subst ha
        have k1 : (k : Int) < l.length := by omega
        cases hu : x.1
        · have F := Lib.hid (freeI_eq HX.out hu HA.out)
          rw [hu] at c0
          clear hu
          go_wp2_with fail
          go_meet
          case rel => rw [F.out]; exact ⟨rfl, by trivial⟩
        · have HU := Lib.hid hu
          rw [hu] at c0
          clear hu
          go_wp2_with fail
          go_round
          case rel =>
            refine ⟨k + 1, by omega, by go_num, fun j y hj hy => ?_⟩
            by_cases e : j = k
            · subst e; have := HX.out.symm.trans hy; cases this; exact HU.out
            · exact HA.out j y (by omega) hy
          case measure => simp [intOf]; omega
      · obtain rfl : k = l.length := by omega
        have F := Lib.hid (freeI_end HA.out)
        go_wp2_with fail
        go_meet
        case rel => rw [F.out]; exact ⟨rfl, by trivial⟩
  case rest =>
  obtain ⟨rfl, rfl⟩ := hcut
  go_upto_region 5 with (fail)
  go_cut [7] (fun v wx => RefRow wx w.heap.size v l ∧ Below w.heap.size w wx)
  case first =>
    have hb0 := build_nil w1 w.heap.size HB1.out.size
    have hsz := HB1.out.size
    cases a with
    | none =>
      have hl : l = [] := by
        rcases HS1.out with h | ⟨b, off, ha, _⟩
        · exact h
        · cases ha
      have hc0 := HNIL.out hl rfl
      subst hl hc0
      go_wp2_with (at_builtin; refine wpList_append_own_none rfl _ _ 41 rfl w.heap.size 44 i0 2 Try.underlying41 hi _ _ _ rfl hb0 rfl ?_)
      go_meet
      case rel => exact ⟨hb0, HB1.out.alloc hsz _⟩
    | some ad =>
      have hnews : ∀ (o : Obj) (j : Nat) (u : Value), (slotCells l)[j]? = some u → (w1.alloc o).cell? (ad.add j) = some u := fun o => slots_news (HS1.out.below ((Below.refl _ _).alloc (Nat.le_refl _) o))
      have hone := slotCells_one l
      have hlen := slotCells_length l
      have HNW := Lib.hid hnews
      have HON := Lib.hid hone
      have HLN := Lib.hid hlen
      clear hnews hone hlen
      go_wp2_with (at_builtin; refine wpList_append_own _ rfl (.tmp 27) (.tmp 28) 41 rfl w.heap.size 44 i0 _ 2 24 Try.underlying41 hi hz0 hz1 hz2 rfl (by decide) _ _ _ rfl hb0 ad l.length c (slotCells l) rfl HLN.out (HNW.out _) HON.out ?c3 ?c4 ?c5 ?_)
      case c3 => unfold maxLen; omega
      case c4 => omega
      case c5 => simp; omega
      intro v' w3 hown3 hgrow _
      have hb3 : Below w.heap.size w w3 := (HB1.out.alloc hsz _).grown hgrow (by simp; omega) (fun q hq => by simp [Value.ownBlock] at hq; omega)
      have HO3 := Lib.hid hown3
      have HB3 := Lib.hid hb3
      clear hown3 hgrow hb3
      go_wp2_with fail
      go_meet
      case rel => exact ⟨HO3.out, HB3.out⟩
  case rest =>
  obtain ⟨hrow, hb⟩ := hcut
  have HROW := Lib.hid hrow
  have HBC := Lib.hid hb
  clear hrow hb HB1 HS1
  obtain ⟨a7, c7, hv7, hc7, hcm7, -⟩ := HROW.out.form
  subst hv7
  go_upto_if 33 with (fail)
  go_cut [7] (fun v wx => ∃ l2 : List SlotD, RefRow wx w.heap.size v l2 ∧ Below w.heap.size w wx ∧ freeI l < l2.length ∧ l2.length ≤ 300 ∧ ∀ s, l2.set (freeI l) (true, s) = addL l s)
  case first =>
    by_cases hf : freeI l < l.length
    · have q1 : ((freeI l : Int) == l.length) = false := by simp; omega
      have q2 : (freeI l == l.length) = false := by simp; omega
      have HE := Lib.hid (show ∀ s, l.set (freeI l) (true, s) = addL l s from fun s => by unfold addL; rw [if_pos hf])
      have HF := Lib.hid hf
      clear hf
      go_wp2_with fail
      go_meet
      case rel => exact ⟨l, HROW.out, HBC.out, HF.out, by omega, HE.out⟩
    · have hf' : freeI l = l.length := by omega
      have q1 : ((freeI l : Int) == l.length) = true := by simp [hf']
      have q2 : (freeI l == l.length) = true := by simp [hf']
      have HE := Lib.hid (show ∀ s, (l ++ [((false, ⟨#[]⟩) : SlotD)]).set (freeI l) (true, s) = addL l s from fun s => by unfold addL; rw [if_neg hf, hf']; simp)
      have HF := Lib.hid hf'
      have hown : wc.ownsRow w.heap.size 44 2 (.slice a7 l.length c7) l.length (slotCells l) := HROW.out
      have hsz := HBC.out.size
      clear hf hf'
      go_wp2_with (at_builtin; refine wpList_append_own _ rfl (.tmp 34) (.tmp 36) 41 rfl w.heap.size 44 i0 (.agg #[.bool false, .string ⟨#[]⟩]) 2 24 Try.underlying41 hi hz0 hz1 hz2 rfl (by decide) _ _ _ rfl (hown.alloc _) ⟨wc.heap.size, 0, none⟩ 1 1 [.bool false, .string ⟨#[]⟩] rfl rfl ?c1 ?c2 ?c3 ?c4 ?c5 ?_)
      case c1 => exact cell_pair _ _ _ _
      case c2 => intro u hu; simp at hu; rcases hu with rfl | rfl <;> rfl
      case c3 => unfold maxLen; omega
      case c4 => omega
      case c5 => simp; omega
      intro v' w3 hown3 hgrow _
      have hb3 : Below w.heap.size w w3 := (HBC.out.alloc hsz _).grown hgrow (by simp; omega) (fun q hq => (hown.lt q hq).1)
      rw [slotCells_snoc] at hown3
      have HO3 : Hid (RefRow w3 w.heap.size v' (l ++ [(false, ⟨#[]⟩)])) := Lib.hid (by unfold RefRow; rw [List.length_append]; exact hown3)
      have HB3 := Lib.hid hb3
      clear hown3 hgrow hb3 hown
      go_wp2_with fail
      go_meet
      case rel => exact ⟨_, HO3.out, HB3.out, by rw [HF.out]; simp, by simp; omega, HE.out⟩
  case rest =>
  clear HROW HBC
  obtain ⟨l2, hrow, hb, hf2, hl2, hE⟩ := hcut
  have HE := Lib.hid hE
  have HB2 := Lib.hid hb
  have HR2 := Lib.hid hrow
  obtain ⟨g, c2, hv2, hc2, hcm2⟩ := hrow.block (by omega)
  subst hv2
  clear hrow hb hE
  by_cases hpos : 0 ≤ roomI l
  · obtain ⟨M, hM⟩ := Int.eq_ofNat_of_zero_le hpos
    have hMe : max (roomI l) (-1) = (M : Int) := by omega
    have hP1 : (packM (addL l (S (nul M)))).2 = 0 := by
      rw [pack_addL GG.out, if_neg (by rw [S_size, nul_length]; omega)]
    have hP2 : (packM (addL l (S (nul (M + 1))))).2 = 8 := by
      rw [pack_addL GG.out, if_pos (by rw [S_size, nul_length]; omega)]
    rw [hMe]
    have hmx : max (M : Int) 0 = M := by omega
    have hMb : M ≤ 494 := by omega
    have hMc : (M : Int) ≤ 492 := by
      have h2 : 2 ≤ 2 * (l.length : Int) + moreL l := by
        rw [moreL_free]
        split <;> omega
      have : roomI l = 494 - 2 * (l.length : Int) - sumR l - moreL l := rfl
      omega
    clear hM hMe hpos hrb hfree
    have hM1 : Hid ((packM (addL l (S (nul M)))).2 = 0) := Lib.hid hP1
    have hM2 : Hid ((packM (addL l (S (nul (M + 1))))).2 = 8) := Lib.hid hP2
    clear hP1 hP2
    have hE1 : l2.set (freeI l) (true, S (nul M)) = addL l (S (nul M)) := HE.out _
    have hE2 : (addL l (S (nul M))).set (freeI l) (true, S (nul (M + 1))) = addL l (S (nul (M + 1))) := by rw [← HE.out, List.set_set, HE.out]
    have hl1 : (addL l (S (nul M))).length = l2.length := by rw [← HE.out, List.length_set]
    have hl3 : (addL l (S (nul (M + 1)))).length = l2.length := by rw [← HE.out, List.length_set]
    have hs1 := addL_sizes (s := S (nul M)) GG.out (by rw [S_size, nul_length]; omega)
    have hs2 := addL_sizes (s := S (nul (M + 1))) GG.out (by rw [S_size, nul_length]; omega)
    have hx1 := addL_at l (S (nul M))
    have E1 := Lib.hid hE1; have E2 := Lib.hid hE2; have L1 := Lib.hid hl1; have L3 := Lib.hid hl3; have Z1 := Lib.hid hs1; have Z2 := Lib.hid hs2; have X1 := Lib.hid hx1
    clear hE1 hE2 hl1 hl3 hs1 hs2 hx1
    have hx : l2[freeI l]? = some l2[freeI l] := List.getElem?_eq_getElem _
    have HX := Lib.hid hx
    generalize l2[freeI l] = x at *
    clear hx
    have k2 : (freeI l : Int) < l2.length := by omega
    have hgg := HR2.out.ge
    generalize freeI l = k at *
    go_wp2_with (at_make; refine wpList_make_full _ rfl (.tmp 41) (.tmp 41) 92 rfl wc.heap.size 5 i1 (.int .u8 0) 1 Try.underlying92 hi' hz0' hz1' .i64 .i64 (M) (M) (M) (by rfl) (by rfl) rfl rfl (by rw [hz2']; omega) (by unfold maxLen; omega) (Nat.le_refl _) ?_; intro w3 hown hgr; have hv := conv_nulB _ _ _ _ hown; clear hown; have hb3 : Below wc.heap.size wc w3 := (Below.refl _ _).grown hgr (Nat.le_refl _) (by intro q h; cases h); have hrow3 := HR2.out.below hb3; have hcc := hrow3.cells HX.out; have c0 := hcc.1; have c1 := hcc.2; have f0 := hrow3.frozenAt (k * 2); have f1 := hrow3.frozenAt (k * 2 + 1); have HB3 := Lib.hid hb3; have HR3 := Lib.hid hrow3; clear hgr hb3 hrow3 hcc)
    have hnew := HR3.out.setBoth k true (S (nul M))
    rw [E1.out] at hnew
    have hnew' := hnew
    rw [← L1.out] at hnew'
    obtain ⟨a4, c4, e4, hc4, hcm4, hat4⟩ := hnew'.form
    have hP := rpack_any hat4 hc4 (by rw [L1.out]; omega) hcm4 Z1.out
    rw [← e4, L1.out] at hP
    refine hP.mono ?_
    rintro e w4 ⟨rfl, hb4⟩
    have hrow4 := hnew'.below hb4
    have HB4 : Hid (Below w.heap.size w w4) := Lib.hid (below_step hb4 (((below_step HB3.out HB2.out).setCell (p := ⟨g, k * 2, none⟩) hgg _).setCell (p := ⟨g, k * 2 + 1, none⟩) hgg _))
    have HR4 := Lib.hid hrow4
    rw [hM1.out]
    clear hnew hnew' e4 hat4 hP hb4 hrow4 hcm4 hc4 f0 f1 c0 c1 hv HB3 HR3
    generalize (packM (addL l (S (nul M)))).1 = r1
    rw [L1.out] at HR4
    go_wp2_with (at_make; refine wpList_make_full _ rfl (.tmp 54) (.tmp 54) 92 rfl w4.heap.size 5 i1 (.int .u8 0) 1 Try.underlying92 hi' hz0' hz1' .i64 .i64 (M + 1) (M + 1) (M + 1) (by rfl) (by rfl) rfl rfl (by rw [hz2']; omega) (by unfold maxLen; omega) (Nat.le_refl _) ?_; intro w5 hown hgr; have hv := conv_nulB _ _ _ _ hown; clear hown; have hb5 : Below w4.heap.size w4 w5 := (Below.refl _ _).grown hgr (Nat.le_refl _) (by intro q h; cases h); have hrow5 := HR4.out.below hb5; rw [← L1.out] at hrow5; have hcc := hrow5.cells X1.out; have c0 := hcc.1; have c1 := hcc.2; have f1 := hrow5.frozenAt (k * 2 + 1); have HB5 := Lib.hid hb5; have HR5 := Lib.hid hrow5; clear hgr hb5 hrow5 hcc)
    have hnew := HR5.out.setRec X1.out (S (nul (M + 1)))
    simp only at hnew
    rw [E2.out] at hnew
    have hnew' := hnew
    rw [L1.out, ← L3.out] at hnew'
    obtain ⟨a6, c6, e6, hc6, hcm6, hat6⟩ := hnew'.form
    have hP := rpack_any hat6 hc6 (by rw [L3.out]; omega) hcm6 Z2.out
    rw [← e6, L3.out] at hP
    refine hP.mono ?_
    rintro e w6 ⟨rfl, hb6⟩
    have HB6 : Hid (Below w.heap.size w w6) := Lib.hid (below_step hb6 ((below_step HB5.out HB4.out).setCell (p := ⟨g, k * 2 + 1, none⟩) hgg _))
    rw [hM2.out]
    clear hnew hnew' e6 hat6 hP hb6 hcm6 hc6 f1 c0 c1 hv
    generalize (packM (addL l (S (nul (M + 1))))).1 = r2
    go_wp2_with fail
    go_ret
    exact ⟨rfl, HB6.out⟩
  · have hMe : max (roomI l) (-1) = -1 := by omega
    have hP1 : (packM (addL l (S (nul 0)))).2 = 8 := by
      rw [pack_addL GG.out, if_pos (by rw [S_size, nul_length]; omega)]
    have hP2 : (packM (addL l (S (nul (0))))).2 = 8 := hP1
    rw [hMe]
    clear hMe hpos hrb hfree
    have hM1 : Hid ((packM (addL l (S (nul 0)))).2 = 8) := Lib.hid hP1
    have hM2 : Hid ((packM (addL l (S (nul (0))))).2 = 8) := Lib.hid hP2
    clear hP1 hP2
    have hE1 : l2.set (freeI l) (true, S (nul 0)) = addL l (S (nul 0)) := HE.out _
    have hE2 : (addL l (S (nul 0))).set (freeI l) (true, S (nul (0))) = addL l (S (nul (0))) := by rw [← HE.out, List.set_set, HE.out]
    have hl1 : (addL l (S (nul 0))).length = l2.length := by rw [← HE.out, List.length_set]
    have hl3 : (addL l (S (nul (0)))).length = l2.length := by rw [← HE.out, List.length_set]
    have hs1 := addL_sizes (s := S (nul 0)) GG.out (by rw [S_size, nul_length]; omega)
    have hs2 := addL_sizes (s := S (nul (0))) GG.out (by rw [S_size, nul_length]; omega)
    have hx1 := addL_at l (S (nul 0))
    have E1 := Lib.hid hE1; have E2 := Lib.hid hE2; have L1 := Lib.hid hl1; have L3 := Lib.hid hl3; have Z1 := Lib.hid hs1; have Z2 := Lib.hid hs2; have X1 := Lib.hid hx1
    clear hE1 hE2 hl1 hl3 hs1 hs2 hx1
    have hx : l2[freeI l]? = some l2[freeI l] := List.getElem?_eq_getElem _
    have HX := Lib.hid hx
    generalize l2[freeI l] = x at *
    clear hx
    have k2 : (freeI l : Int) < l2.length := by omega
    have hgg := HR2.out.ge
    generalize freeI l = k at *
    go_wp2_with (at_make; refine wpList_make_full _ rfl (.tmp 41) (.tmp 41) 92 rfl wc.heap.size 5 i1 (.int .u8 0) 1 Try.underlying92 hi' hz0' hz1' .i64 .i64 (0) (0) (0) (by rfl) (by rfl) rfl rfl (by rw [hz2']; omega) (by unfold maxLen; omega) (Nat.le_refl _) ?_; intro w3 hown hgr; have hv := conv_nulB _ _ _ _ hown; clear hown; have hb3 : Below wc.heap.size wc w3 := (Below.refl _ _).grown hgr (Nat.le_refl _) (by intro q h; cases h); have hrow3 := HR2.out.below hb3; have hcc := hrow3.cells HX.out; have c0 := hcc.1; have c1 := hcc.2; have f0 := hrow3.frozenAt (k * 2); have f1 := hrow3.frozenAt (k * 2 + 1); have HB3 := Lib.hid hb3; have HR3 := Lib.hid hrow3; clear hgr hb3 hrow3 hcc)
    have hnew := HR3.out.setBoth k true (S (nul 0))
    rw [E1.out] at hnew
    have hnew' := hnew
    rw [← L1.out] at hnew'
    obtain ⟨a4, c4, e4, hc4, hcm4, hat4⟩ := hnew'.form
    have hP := rpack_any hat4 hc4 (by rw [L1.out]; omega) hcm4 Z1.out
    rw [← e4, L1.out] at hP
    refine hP.mono ?_
    rintro e w4 ⟨rfl, hb4⟩
    have hrow4 := hnew'.below hb4
    have HB4 : Hid (Below w.heap.size w w4) := Lib.hid (below_step hb4 (((below_step HB3.out HB2.out).setCell (p := ⟨g, k * 2, none⟩) hgg _).setCell (p := ⟨g, k * 2 + 1, none⟩) hgg _))
    have HR4 := Lib.hid hrow4
    rw [hM1.out]
    clear hnew hnew' e4 hat4 hP hb4 hrow4 hcm4 hc4 f0 f1 c0 c1 hv HB3 HR3
    generalize (packM (addL l (S (nul 0)))).1 = r1
    rw [L1.out] at HR4
    go_wp2_with (at_make; refine wpList_make_full _ rfl (.tmp 54) (.tmp 54) 92 rfl w4.heap.size 5 i1 (.int .u8 0) 1 Try.underlying92 hi' hz0' hz1' .i64 .i64 (0) (0) (0) (by rfl) (by rfl) rfl rfl (by rw [hz2']; omega) (by unfold maxLen; omega) (Nat.le_refl _) ?_; intro w5 hown hgr; have hv := conv_nulB _ _ _ _ hown; clear hown; have hb5 : Below w4.heap.size w4 w5 := (Below.refl _ _).grown hgr (Nat.le_refl _) (by intro q h; cases h); have hrow5 := HR4.out.below hb5; rw [← L1.out] at hrow5; have hcc := hrow5.cells X1.out; have c0 := hcc.1; have c1 := hcc.2; have f1 := hrow5.frozenAt (k * 2 + 1); have HB5 := Lib.hid hb5; have HR5 := Lib.hid hrow5; clear hgr hb5 hrow5 hcc)
    have hnew := HR5.out.setRec X1.out (S (nul (0)))
    simp only at hnew
    rw [E2.out] at hnew
    have hnew' := hnew
    rw [L1.out, ← L3.out] at hnew'
    obtain ⟨a6, c6, e6, hc6, hcm6, hat6⟩ := hnew'.form
    have hP := rpack_any hat6 hc6 (by rw [L3.out]; omega) hcm6 Z2.out
    rw [← e6, L3.out] at hP
    refine hP.mono ?_
    rintro e w6 ⟨rfl, hb6⟩
    have HB6 : Hid (Below w.heap.size w w6) := Lib.hid (below_step hb6 ((below_step HB5.out HB4.out).setCell (p := ⟨g, k * 2 + 1, none⟩) hgg _))
    rw [hM2.out]
    clear hnew hnew' e6 hat6 hP hb6 hcm6 hc6 f1 c0 c1 hv
    generalize (packM (addL l (S (nul (0))))).1 = r2
    go_wp2_with fail
    go_ret
    exact ⟨rfl, HB6.out⟩

end Go.Proofs.Yteijagojagfecaa
