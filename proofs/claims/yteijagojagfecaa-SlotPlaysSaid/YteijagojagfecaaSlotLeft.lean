/- The contract of slot.Left; the law's example. -/
import Derived.Test.YteijagojagfecaaSlotOps2
namespace Go.Proofs.Yteijagojagfecaa
open Go.RowKit Go.Joins
set_option linter.unusedVariables false

def moreL (l : List SlotD) : Int := if l.all (·.1) then 2 else 0
theorem moreL_snoc_used (l : List SlotD) (s : ByteArray) : moreL (l ++ [(true, s)]) = moreL l := by unfold moreL; rw [List.all_append]; cases l.all (fun x => x.1) <;> rfl
theorem moreL_snoc_free (l : List SlotD) (s : ByteArray) : moreL (l ++ [(false, s)]) = 0 := by simp [moreL]
theorem moreL_bd (l : List SlotD) : 0 ≤ moreL l ∧ moreL l ≤ 2 := by unfold moreL; split <;> omega

set_option maxRecDepth 100000 in
set_option maxHeartbeats 2000000 in
theorem leftS_any (room : ByteArray) (w : World) (hs : room.size ≤ 9223372036854775807) :
    Calls Try.prog 27 #[.string room] w fun e w' => e = .returned (.int .i64 (leftM room)) ∧ Below w.heap.size w w' := by
  go_enter Try.func27, Try.ntmps27
  go_wp2_with fail
  refine (read_any room _ hs).mono ?_
  rintro e w1 ⟨hb, hr⟩
  have HB := Lib.hid hb
  clear hb
  cases hm : readM room with
  | none =>
    rw [hm] at hr
    obtain rfl := hr
    have F := Lib.hid (show leftM room = -1 by simp [leftM, hm])
    clear hm
    go_wp2_with fail
    go_ret
    rw [F.out]
    exact ⟨rfl, HB.out⟩
  | some l =>
    rw [hm] at hr
    obtain ⟨v, rfl, hrow⟩ := hr
    have F := Lib.hid (show leftM room = max (494 - 2 * (l.length : Int) - sumR l - moreL l) (-1) by simp [leftM, hm, moreL])
    obtain ⟨_, _, _, hll, _⟩ := readM_some hm
    obtain ⟨a, c, rfl, hc, hat⟩ := hrow.form
    have HA := Lib.hid hat
    clear hm hrow hat
    go_wp2_with fail
    go_loopw [5, 6, 8, 18] (fun u q _ v wr => ∃ j : Nat, j ≤ l.length ∧ v = .int .i64 j ∧ u = .int .i64 (494 - 2 * (j : Int) - (sumR (l.take j) : Nat)) ∧ q = .int .i64 (moreL (l.take j)) ∧ Below w1.heap.size w1 wr) (fun _ _ _ v _ => l.length - (intOf v).toNat)
    case atStart => exact ⟨0, Nat.zero_le _, rfl, by simp [sumR], by simp [moreL], Below.refl _ _⟩
    case round =>
      obtain ⟨j, hj, rfl, rfl, rfl, hb⟩ := hrel
      have HB1 := Lib.hid hb
      by_cases hlt : j < l.length
      · obtain ⟨b, off, ha, hcell⟩ := (HA.out.below hb).some hlt
        have hx : l[j]? = some l[j] := List.getElem?_eq_getElem _
        obtain ⟨c0, c1⟩ := hcell j _ hx
        have htk : l.take (j + 1) = l.take j ++ [l[j]] := List.take_succ_eq_append_getElem (by omega)
        have hle := sumR_take_le l (j + 1)
        rw [htk, sumR_snoc] at hle
        have HK := Lib.hid htk
        generalize l[j] = x at *
        clear hcell hx htk hb
        subst ha
        obtain ⟨u, s⟩ := x
        simp only at c0 c1 hle
        obtain ⟨L, hL⟩ : ∃ L : Nat, L = 494 - 2 * j - sumR (l.take j) := ⟨_, rfl⟩
        have hLi : 494 - 2 * (j : Int) - (sumR (l.take j) : Nat) = L := by omega
        have hL4 : L ≤ 494 := by omega
        have hs4 : s.size + 2 ≤ L := by omega
        have e2 : (L : Int) - (2 + (s.size : Int)) = 494 - 2 * ((j + 1 : Nat) : Int) - (sumR (l.take (j + 1)) : Nat) := by rw [HK.out, sumR_snoc]; simp only; omega
        have HE2 := Lib.hid e2
        rw [hLi]
        clear hLi hL hle e2
        obtain ⟨M, hM⟩ : ∃ M, M = moreL (l.take j) := ⟨_, rfl⟩
        have HM := Lib.hid hM
        rw [← hM]
        clear hM
        cases u
        · go_wp2_with fail
          go_roundw
          case rel =>
            refine ⟨j + 1, by omega, by go_num, congrArg (Value.int .i64) HE2.out, by rw [HK.out, moreL_snoc_free], below_step (below_alloc (Below.refl _ _)) HB1.out⟩
          case measure => simp [intOf]; omega
        · go_wp2_with fail
          go_roundw
          case rel =>
            refine ⟨j + 1, by omega, by go_num, congrArg (Value.int .i64) HE2.out, by rw [HK.out, moreL_snoc_used, HM.out], below_step (below_alloc (Below.refl _ _)) HB1.out⟩
          case measure => simp [intOf]; omega
      · obtain rfl : j = l.length := by omega
        rw [List.take_length]
        clear hb
        have hmb := moreL_bd l
        obtain ⟨L, hL⟩ : ∃ L : Nat, L = 494 - 2 * l.length - sumR l := ⟨_, rfl⟩
        have hLi : 494 - 2 * (l.length : Int) - (sumR l : Nat) = L := by omega
        rw [hLi] at F ⊢
        have hL4 : L ≤ 494 := by omega
        clear hLi hL
        generalize moreL l = M at *
        go_wp2_with fail
        go_ret
        rw [F.out]
        exact ⟨by first | rfl | (congr 2; omega), below_step HB1.out HB.out⟩

/-! The document's example. -/
def exRoom : ByteArray := (packM [(true, ⟨#[97, 98]⟩)]).1
theorem read_empty : readM (S (nul 496)) = some [] := by
  have := read_pack (l := []) (by rw [packM_nil])
  rw [packM_nil] at this
  exact this
theorem pack_ex : packM [(true, (⟨#[97, 98]⟩ : ByteArray))] = (S (roomS [(true, ⟨#[97, 98]⟩)]), 0) := by
  have h1 : trimS [(true, (⟨#[97, 98]⟩ : ByteArray))] = [(true, ⟨#[97, 98]⟩)] := by decide
  unfold packM
  rw [h1, if_neg (by decide), if_neg (by decide)]
theorem addM_ex : addM (S (nul 496)) ⟨#[97, 98]⟩ = (S (roomS [(true, ⟨#[97, 98]⟩)]), 0, 0) := by
  unfold addM
  rw [read_empty]
  have : addL [] (⟨#[97, 98]⟩ : ByteArray) = [(true, ⟨#[97, 98]⟩)] := rfl
  simp only [this, pack_ex]
  rfl
theorem leftM_empty : leftM (S (nul 496)) = 492 := by
  unfold leftM; rw [read_empty]; rfl

set_option maxRecDepth 100000 in
set_option maxHeartbeats 2000000 in
theorem awake12_any (w : World) : Calls Try.prog 23 #[] w fun e w' => e = .returned (.bool true) ∧ Below w.heap.size w w' := by
  have hsz : (S (nul 496)).size = 496 := by rw [S_size, nul_length]
  have hA := fun W => addS_any (S (nul 496)) ⟨#[97, 98]⟩ W (by omega) (by decide)
  rw [addM_ex] at hA
  have hL := fun W => leftS_any (S (nul 496)) W (by omega)
  rw [leftM_empty] at hL
  have HA := fun W => Lib.hid (hA W)
  have HL := fun W => Lib.hid (hL W)
  have hr : (S (roomS [(true, ⟨#[97, 98]⟩)])).size = 496 := by rw [S_size, roomS_length _ (by decide)]
  have hr1 : (S (roomS [(true, (⟨#[97, 98]⟩ : ByteArray))])).extract 0 6 = ⟨#[1, 0, 3, 0, 97, 98]⟩ := by
    rw [extract_cut, cut_S]
    have : (roomS [(true, (⟨#[97, 98]⟩ : ByteArray))]).drop 0 = [1, 0, 3, 0, 97, 98] ++ nul 490 := by
      unfold roomS; decide
    rw [this]
    rfl
  clear hA hL hsz
  have q4 : ((S (roomS [(true, (⟨#[97, 98]⟩ : ByteArray))])).extract 0 6).toList = [1, 0, 3, 0, 97, 98] := by rw [hr1, ByteArray.toList_eq]
  have q5 : (((S (roomS [(true, (⟨#[97, 98]⟩ : ByteArray))])).extract 0 6).toList == [1, 0, 3, 0, 97, 98]) = true := by rw [q4]; rfl
  clear q4
  generalize S (roomS [(true, ⟨#[97, 98]⟩)]) = R at *
  have q1 : ((R.size : Int) == 496) = true := by simp [hr]
  have q2 : 6 ≤ R.size := by omega
  have q3 : (6 : Int) ≤ R.size := by omega
  clear hr hr1
  go_enter Try.func23, Try.ntmps23
  go_wp2_with fail
  refine (empty_any _).mono ?_
  rintro e w1 ⟨rfl, hb1⟩
  have HB1 := Lib.hid hb1
  clear hb1
  go_wp2_with fail
  refine (HA _).out.mono ?_
  rintro e w2 ⟨rfl, hb2⟩
  have HB2 := Lib.hid (below_step hb2 HB1.out)
  clear hb2
  go_wp2_with fail
  refine (empty_any _).mono ?_
  rintro e w3 ⟨rfl, hb3⟩
  have HB3 := Lib.hid (below_step hb3 HB2.out)
  clear hb3
  go_wp2_with fail
  refine (HL _).out.mono ?_
  rintro e w4 ⟨rfl, hb4⟩
  have HB4 := Lib.hid (below_step hb4 HB3.out)
  clear hb4
  go_wp2_with fail
  go_ret
  exact ⟨rfl, HB4.out⟩

end Go.Proofs.Yteijagojagfecaa
