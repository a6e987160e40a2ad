/- The walk of the law SlotLefts. -/
import Derived.Test.YteijagojagfecaaSlotLeftRight
namespace Go.Proofs.Yteijagojagfecaa
open Go.RowKit Go.Joins
set_option linter.unusedVariables false

theorem RefRow.nilcap {w : World} {base : Nat} {a : Option Addr} {n c : Nat} {l : List SlotD} (h : RefRow w base (.slice a n c) l) : a = none → c = 0 := by
  intro ha
  rcases h.2 with ⟨h0, _⟩ | ⟨g, cap, cur, h0, _⟩
  · injection h0
  · injection h0 with h1; rw [ha] at h1; cases h1

set_option maxRecDepth 100000 in
set_option maxHeartbeats 3200000 in
theorem slotLefts_walk {w : World} (room : ByteArray) (hz : room.size ≤ 140737488351232) :
    Calls Try.prog 5 #[.string room] w fun e w' => e = .returned (.bool true) ∧ Below w.heap.size w w' := by
  by_cases hbig : 2000 < room.size
  · have b1 : (2000 : Int) < room.size := by omega
    go_enter Try.func5, Try.ntmps5
    go_wp2_with fail
    refine (awake12_any _).mono ?_
    rintro e w1 ⟨rfl, hb1⟩
    have HB1 := Lib.hid hb1
    clear hb1
    go_wp2_with fail
    refine (awake12_any _).mono ?_
    rintro e w2 ⟨rfl, hb2⟩
    have HB2 := Lib.hid (below_step hb2 HB1.out)
    clear hb2
    go_wp2_with fail
    go_ret
    exact ⟨rfl, HB2.out⟩
  · have b1 : (room.size : Int) ≤ 2000 := by omega
    go_enter Try.func5, Try.ntmps5
    go_wp2_with fail
    refine (awake12_any _).mono ?_
    rintro e w1 ⟨rfl, hb1⟩
    have HB1 := Lib.hid hb1
    clear hb1
    go_wp2_with fail
    refine (rread12_any room _ (by omega)).mono ?_
    rintro e w3 ⟨hb3, hr⟩
    have HB3 := Lib.hid (below_step hb3 HB1.out)
    clear hb3
    cases hm : readM room with
    | none =>
      rw [hm] at hr
      obtain ⟨a, n, c, rfl⟩ := hr
      have F := Lib.hid (show leftM room = -1 by simp [leftM, hm])
      clear hm
      go_wp2_with fail
      refine (leftS_any room _ (by omega)).mono ?_
      rintro e w4 ⟨rfl, hb4⟩
      have HB4 := Lib.hid (below_step hb4 HB3.out)
      clear hb4
      rw [F.out]
      go_wp2_with fail
      go_ret
      exact ⟨rfl, HB4.out⟩
    | some l =>
      rw [hm] at hr
      obtain ⟨v, rfl, hrow⟩ := hr
      obtain ⟨a, c, rfl, hc, hcm, hat⟩ := hrow.form
      have HL := Lib.hid (leftRight_any hm hat hc (fun _ => hrow.nilcap))
      clear hrow hat hm
      go_wp2_with fail
      refine HL.out.mono ?_
      rintro e w4 ⟨rfl, hb4⟩
      have HB4 := Lib.hid (below_step hb4 HB3.out)
      clear hb4
      go_wp2_with fail
      go_ret
      exact ⟨rfl, HB4.out⟩

end Go.Proofs.Yteijagojagfecaa
