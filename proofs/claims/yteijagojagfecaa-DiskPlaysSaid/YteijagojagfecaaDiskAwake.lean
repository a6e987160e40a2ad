/- The document's example of layer 6. -/
import Derived.Test.YteijagojagfecaaDiskIs
namespace Go.Proofs.Yteijagojagfecaa
open Go.RowKit Go.Maps Go.Joins
set_option linter.unusedVariables false

def dm0 : DM := newM (newSu 2)
def dm1 : DM := { dm0 with wait := [(0, fillB 97)] }
def dm2 : DM := newM [fillB 97, S (nul 64)]
def dm3 : DM := { dm2 with wait := [(0, fillB 98)] }
def kf0 : Nat → Bool := fun _ => false
def dm4 : DM := crM dm3 0 kf0 0 3
theorem dm0_ok : DOk dm0 0 := DOk.new (newSu_size 2) (by decide) (by decide)
theorem dm1_eq : (wrM dm0 0 (fillB 97)) = (0, dm1) := by simp [wrM, burnM, dm0, newM, newSu, fillB_size, dm1]
theorem dm2_eq : (flM dm1) = (0, dm2) := by simp [flM, burnM, dm0, newM, newSu, dm1, dm2, flTo]
theorem dm3_eq : (wrM dm2 0 (fillB 98)) = (0, dm3) := by simp [wrM, burnM, dm2, newM, fillB_size, dm3]
theorem dm4_read : rdM dm4 0 = ((fillB 98).extract 0 3 ++ (fillB 97).extract 3 64, 0) := by
  have h : (fillB 97).size = 64 := fillB_size 97
  simp [rdM, dm4, crM, dm3, dm2, newM, crN, crV, lastW, h]
  rfl
theorem dm2_ok : DOk dm2 0 := DOk.new (by intro t ht; simp at ht; rcases ht with rfl | rfl; exact fillB_size 97; rw [S_size, nul_length]) (by decide) (by decide)
theorem dm1_ok : DOk dm1 1 := by have := dm0_ok.write 0 (fillB 97); rw [dm1_eq] at this; exact this
theorem dm3_ok : DOk dm3 1 := by have := dm2_ok.write 0 (fillB 98); rw [dm3_eq] at this; exact this

theorem Goes.fresh {w0 w w' : World} {d : Nat} {F : List Nat} {m : DM} {B : Nat} (hB : ∀ b ∈ F, B ≤ b) (hb : Below B w0 w) (hBw : B ≤ w.heap.size) (h : Goes w w' d F m) : ∃ F', IsDisk w' d F' m ∧ Below B w0 w' ∧ ∀ b ∈ F', B ≤ b := by
  obtain ⟨F', hD, hT, hF⟩ := h
  exact ⟨F', hD, hb.trans (hT.below hBw hB), fun b hm => (hF b hm).elim (hB b) (fun h' => by omega)⟩

set_option maxRecDepth 100000 in
set_option maxHeartbeats 4000000 in
theorem awake06_any (w : World) : Calls Try.prog 13 #[] w fun e w' => e = .returned (.bool true) ∧ Below w.heap.size w w' := by
  have e1 := dm1_eq
  have e2 := dm2_eq
  have e3 := dm3_eq
  have e4 := dm4_read
  have z1 := fillB_size 97
  have z2 := fillB_size 98
  have E1 := Lib.hid e1; have E2 := Lib.hid e2; have E3 := Lib.hid e3; have E4 := Lib.hid e4
  clear e1 e2 e3 e4
  go_enter Try.func13, Try.ntmps13
  go_wp2_with fail
  refine (new_any 2 _ (by omega) (by omega)).mono ?_
  rintro e w1 ⟨d, rfl, F1, hD1, hb1, hF1⟩
  go_wp2_with fail
  refine (fill_any 97 _ (by omega) (by omega)).mono ?_
  rintro e w2 ⟨rfl, hb2⟩
  have hD2 := hD1.touch (F := []) (Touch.of_below hb2) (fun _ _ h => by cases h)
  have hB2 := below_step hb2 hb1
  go_wp2_with fail
  refine (is_write (m := dm0) hD2 dm0_ok (by omega) 0 (fillB 97) (by omega) (by omega) (by omega)).mono ?_
  rintro e w3 ⟨rfl, hG3⟩
  rw [E1.out] at hG3 ⊢
  obtain ⟨F3, hD3, hB3, hF3⟩ := Goes.fresh hF1 hB2 hB2.size hG3
  go_wp2_with fail
  refine (is_flush hD3 dm1_ok (by omega)).mono ?_
  rintro e w4 ⟨rfl, hG4⟩
  rw [E2.out] at hG4 ⊢
  obtain ⟨F4, hD4, hB4, hF4⟩ := Goes.fresh hF3 hB3 hB3.size hG4
  go_wp2_with fail
  refine (fill_any 98 _ (by omega) (by omega)).mono ?_
  rintro e w5 ⟨rfl, hb5⟩
  have hD5 := hD4.touch (F := []) (Touch.of_below hb5) (fun _ _ h => by cases h)
  have hB5 := below_step hb5 hB4
  go_wp2_with fail
  refine (is_write hD5 dm2_ok (by omega) 0 (fillB 98) (by omega) (by omega) (by omega)).mono ?_
  rintro e w6 ⟨rfl, hG6⟩
  rw [E3.out] at hG6 ⊢
  obtain ⟨F6, hD6, hB6, hF6⟩ := Goes.fresh hF4 hB5 hB5.size hG6
  go_wp2_with fail
  refine (is_crash (kf := kf0) hD6 dm3_ok (by omega) 0 3 (.inl rfl) (fun _ _ h => by cases h) (by omega) (by omega)).mono ?_
  rintro e w7 ⟨rfl, hG7⟩
  obtain ⟨F7, hD7, hB7, hF7⟩ := Goes.fresh hF6 hB6 hB6.size hG7
  go_wp2_with fail
  refine (is_read (m := dm4) hD7 0 (by omega) (by omega)).mono ?_
  rintro e w8 ⟨rfl, rfl⟩
  rw [E4.out]
  have HB := Lib.hid hB7
  clear hb1 hb2 hB2 hB3 hB4 hB5 hB6 hB7 hb5
  go_wp2_with fail
  go_region_held3 (fun w' => True) (trivial)
    (first
      | (go_at_call 17; refine (fill_any _ _ (by decide) (by decide)).mono ?_; rintro e w' ⟨rfl, hbx⟩))
  all_goals (try go_wp2_with fail)
  go_ret
  have hB := HB.out
  exact ⟨rfl, by repeat (first | exact hB | refine below_drew ?_ | refine below_drewN' ?_ _ | refine below_step ‹_› ?_)⟩

end Go.Proofs.Yteijagojagfecaa
