/- The reference's Read. -/
import Derived.Test.YteijagojagfecaaSlotRef
namespace Go.Proofs.Yteijagojagfecaa
open Go.RowKit Go.Joins
set_option linter.unusedVariables false

/-- A row of the reference's slots, of the call's own. -/
def RefRow (w : World) (base : Nat) (v : Value) (l : List SlotD) : Prop := w.ownsRow base 44 2 v l.length (slotCells l)
theorem RefRow.form {w : World} {base : Nat} {v : Value} {l : List SlotD} (h : RefRow w base v l) : ∃ a c, v = .slice a l.length c ∧ l.length ≤ c ∧ c ≤ 9223372036854775807 ∧ SlotsAt w a l := by
  have m : maxLen = 9223372036854775807 := rfl
  rcases h.2 with ⟨rfl, h0⟩ | ⟨g, cap, cur, rfl, _, hg, hnc, hcm, _⟩
  · exact ⟨none, 0, by rw [h0], by omega, by omega, .inl (List.eq_nil_of_length_eq_zero h0)⟩
  · refine ⟨_, cap, rfl, hnc, by omega, .inr ⟨g, 0, rfl, fun i x hx => ?_⟩⟩
    have hi := (List.getElem?_eq_some_iff.1 hx).1
    obtain ⟨e1, e2⟩ := slotCells_get l i x hx
    have x1 := h.cellAt (i * 2) (by omega)
    have x2 := h.cellAt (i * 2 + 1) (by omega)
    rw [e1] at x1; rw [e2] at x2
    simp only [Nat.zero_add]
    exact ⟨x1, x2⟩
theorem RefRow.nil (w : World) (base : Nat) : RefRow w base (.slice none 0 0) [] := World.ownsRow_nil _ _ _ _
theorem RefRow.below {w w' : World} {base : Nat} {v : Value} {l : List SlotD} (h : RefRow w base v l) (hb : Below w.heap.size w w') : RefRow w' base v l :=
  ownsRow_touch h (Touch.of_below hb : Touch [] w w') (fun _ _ h => by cases h)

/-- What the reference's Read leaves. -/
def RReadEnd (w : World) (room : ByteArray) (e : Ending) (w' : World) : Prop :=
  Below w.heap.size w w' ∧ match readM room with
    | none => ∃ a n c, e = .returned (.tuple #[.slice a n c, .bool false])
    | some l => ∃ v, e = .returned (.tuple #[v, .bool true]) ∧ RefRow w' w.heap.size v l
theorem RReadEnd.bad {w w' : World} {room : ByteArray} {e : Ending} {a : Option Addr} {n c : Nat} (h : readM room = none) (hb : Below w.heap.size w w') (he : e = .returned (.tuple #[.slice a n c, .bool false])) : RReadEnd w room e w' := by
  unfold RReadEnd; rw [h]; exact ⟨hb, _, _, _, he⟩
theorem RReadEnd.good {w w' : World} {room : ByteArray} {e : Ending} {l : List SlotD} {v : Value} (h : readM room = some l) (hb : Below w.heap.size w w') (he : e = .returned (.tuple #[v, .bool true])) (hr : RefRow w' w.heap.size v l) : RReadEnd w room e w' := by
  unfold RReadEnd; rw [h]; exact ⟨hb, v, he, hr⟩
theorem Try.infoRSlot : (Try.prog.info? 44).map (fun i => (i.zero, i.size, i.bytes)) = some (some (.agg #[.bool false, .string ⟨#[]⟩]), 2, 24) := by kernel_rfl

theorem rget2 (room : ByteArray) (p : Nat) (W : World) (h : p + 2 ≤ room.size) :
    Calls Try.prog 62 #[.string (room.extract p (p + 2))] W fun e w' => e = .returned (.int .u64 (leN (cut room p 2))) ∧ W = w' := by
  have hs : (room.extract p (p + 2)).size = 2 := by rw [ByteArray.size_extract]; omega
  have := refGet_any (room.extract p (p + 2)) W (by omega)
  have e : cut (room.extract p (p + 2)) 0 (room.extract p (p + 2)).size = cut room p 2 := by
    rw [hs, extract_cut, Nat.add_sub_cancel_left, cut_S, List.drop_zero, List.take_of_length_le]
    unfold cut; simp; omega
  rw [e] at this
  exact this

set_option maxRecDepth 100000 in
set_option maxHeartbeats 4000000 in
theorem rread12_any (room : ByteArray) (w : World) (hs : room.size ≤ 9223372036854775807) : Calls Try.prog 26 #[.string room] w fun e w' => RReadEnd w room e w' := by
  by_cases hz : room.size = 496
  · obtain ⟨n, hn⟩ : ∃ n : Nat, leN (cut room 0 2) = n := ⟨(leN (cut room 0 2)).toNat, by have := leN2_bd room 0; omega⟩
    have hnb : n < 65536 := by have := leN2_bd room 0; omega
    have hsn : slotN room = n := by unfold slotN; rw [hn]; simp
    have hG := fun W => rget2 room 0 W (by omega)
    rw [hn, Nat.zero_add] at hG
    have HG := fun W => Lib.hid (hG W)
    have HN := Lib.hid hsn
    have HZ := Lib.hid hz
    have z0 : ((room.size : Int) == 496) = true := by simp [hz]
    have z1 : ((room.size : Int) != 496) = false := by simp [hz]
    have y1 : 2 ≤ room.size := by omega
    have y2 : (2 : Int) ≤ room.size := by omega
    have y5 : (room.size : Int) ≤ 496 := by omega
    clear hG hn hsn hz
    by_cases hbig : 494 < 2 * n
    · have F := Lib.hid (readM_many (room := room) (by rw [HN.out]; exact hbig))
      go_enter Try.func26, Try.ntmps26
      go_wp2_with fail
      refine (HG _).out.mono ?_
      rintro e w1 ⟨rfl, rfl⟩
      go_wp2_with fail
      go_ret2
      exact RReadEnd.bad F.out (Below.refl _ _) rfl
    · obtain ⟨i0, hi, hz0, hz1, hz2⟩ := info_parts Try.infoRSlot
      go_enter Try.func26, Try.ntmps26
      go_wp2_with fail
      refine (HG _).out.mono ?_
      rintro e w1 ⟨rfl, rfl⟩
      go_wp2_with fail
      clear y1 y2
      go_loopw [5, 6, 7, 8] (fun pv v c _ wr => ∃ (k : Nat) (l : List SlotD) (p : Nat), k ≤ n ∧ c = .int .i64 k ∧ pv = .int .i64 p ∧ p ≤ 496 ∧ parseTo room n k = some (l, p) ∧ RefRow wr w.heap.size v l ∧ Below w.heap.size w wr) (fun _ _ c _ _ => n - (intOf c).toNat)
      case atStart => exact ⟨0, [], 2 + 2 * n, Nat.zero_le _, rfl, by go_num, by omega, rfl, RefRow.nil _ _, Below.refl _ _⟩
      case round =>
        obtain ⟨k, l, p, hk, rfl, rfl, hp, hpar, hown, hb⟩ := hrel
        have HB := Lib.hid hb
        have HP := Lib.hid hpar
        have HO := Lib.hid hown
        have hll : l.length ≤ 300 := by rw [parseTo_length _ _ _ _ _ hpar]; omega
        by_cases hlt : k < n
        · have hstep := parse_step hpar
          have hkb := leN2_bd room (2 + 2 * k)
          have hG := fun W => rget2 room (2 + 2 * k) W (by have := HZ.out; omega)
          have hsz := hb.size
          have e4 : 2 + 2 * k + 2 = 4 + 2 * k := by omega
          rw [e4] at hG
          have x1 : 4 + 2 * k ≤ room.size := by have := HZ.out; omega
          have x2 : (4 : Int) + 2 * k ≤ room.size := by omega
          clear hpar hb e4
          have hown' : wr.ownsRow w.heap.size 44 2 _ l.length (slotCells l) := hown
          by_cases h0 : leN (cut room (2 + 2 * k) 2) = 0
          · rw [h0] at hG
            rw [if_pos h0] at hstep
            have HG1 := fun W => Lib.hid (hG W)
            have HS := Lib.hid hstep
            clear hG hstep hkb h0 hown
            go_wp2_with fail
            refine (HG1 _).out.mono ?_
            rintro e w2 ⟨rfl, rfl⟩
            go_wp2_with (at_builtin; refine wpList_append_own _ rfl (.tmp 41) (.tmp 43) 41 rfl w.heap.size 44 i0 (.agg #[.bool false, .string ⟨#[]⟩]) 2 24 Try.underlying41 hi hz0 hz1 hz2 rfl (by decide) _ _ _ rfl (hown'.alloc _) ⟨wr.heap.size, 0, none⟩ 1 1 [.bool false, .string ⟨#[]⟩] rfl rfl ?c1 ?c2 ?c3 ?c4 ?c5 ?_)
            case c1 => exact cell_pair _ _ _ _
            case c2 => intro u hu; simp at hu; rcases hu with rfl | rfl <;> rfl
            case c3 => unfold maxLen; omega
            case c4 => omega
            case c5 => simp; omega
            intro v' w3 hown3 hgrow _
            have hb3 : Below w.heap.size w w3 := (HB.out.alloc hsz _).grown hgrow (by simp; omega) (fun q hq => (hown'.lt q hq).1)
            rw [slotCells_snoc] at hown3
            have HO3 : Hid (RefRow w3 w.heap.size v' (l ++ [(false, ⟨#[]⟩)])) := Lib.hid (by unfold RefRow; rw [List.length_append]; exact hown3)
            have HB3 := Lib.hid hb3
            clear hown3 hgrow hb3 hown'
            go_wp2_with fail
            go_roundw
            case rel => exact ⟨k + 1, _, p, by omega, by go_num, rfl, hp, HS.out, HO3.out, HB3.out⟩
            case measure => simp [intOf]; omega
          · obtain ⟨z, hz⟩ : ∃ z : Nat, leN (cut room (2 + 2 * k) 2) = (z : Int) + 1 := ⟨(leN (cut room (2 + 2 * k) 2) - 1).toNat, by omega⟩
            rw [if_neg h0, hz] at hstep
            rw [hz] at hG
            have HG1 := fun W => Lib.hid (hG W)
            have e1 : ((z : Int) + 1).toNat - 1 = z := by omega
            rw [e1] at hstep
            have z3 : ((z : Int) + 1 == 0) = false := by simp; omega
            have zb : z < 65535 := by omega
            by_cases hbig2 : 496 - (p : Int) < z
            · rw [if_pos (by omega)] at hstep
              have F := Lib.hid (readM_cut (room := room) (k := k + 1) (by rw [HN.out]; omega) (by rw [HN.out]; exact hstep))
              have u1 : (496 : Int) < (p : Int) + ((z : Int) + 1) - 1 := by omega
              clear hG hstep hkb h0 hown hz e1 hown'
              go_wp2_with fail
              refine (HG1 _).out.mono ?_
              rintro e w2 ⟨rfl, rfl⟩
              go_wp2_with fail
              go_ret2
              exact RReadEnd.bad F.out HB.out rfl
            · rw [if_neg (by omega)] at hstep
              have HS := Lib.hid hstep
              have y0 := HZ.out
              have y1 : p ≤ room.size := by omega
              have y2 : p + z ≤ room.size := by omega
              have y3 : (p : Int) ≤ room.size := by omega
              have y4 : (p : Int) + z ≤ room.size := by omega
              have HE : Hid ((p : Int) + ((z : Int) + 1) - 1 = ((p + z : Nat) : Int)) := Lib.hid (by omega)
              clear hG hstep hkb h0 hown hz e1 y0
              go_wp2_with fail
              refine (HG1 _).out.mono ?_
              rintro e w2 ⟨rfl, rfl⟩
              go_wp2_with (at_builtin; refine wpList_append_own _ rfl (.tmp 50) (.tmp 59) 41 rfl w.heap.size 44 i0 (.agg #[.bool false, .string ⟨#[]⟩]) 2 24 Try.underlying41 hi hz0 hz1 hz2 rfl (by decide) _ _ _ rfl (hown'.alloc _) ⟨wr.heap.size, 0, none⟩ 1 1 [.bool true, .string (room.extract p (p + z))] rfl rfl ?c1 ?c2 ?c3 ?c4 ?c5 ?_)
              case c1 => exact cell_pair _ _ _ _
              case c2 => intro u hu; simp at hu; rcases hu with rfl | rfl <;> rfl
              case c3 => unfold maxLen; omega
              case c4 => omega
              case c5 => simp; omega
              intro v' w3 hown3 hgrow _
              have hb3 : Below w.heap.size w w3 := (HB.out.alloc hsz _).grown hgrow (by simp; omega) (fun q hq => (hown'.lt q hq).1)
              rw [slotCells_snoc] at hown3
              have HO3 : Hid (RefRow w3 w.heap.size v' (l ++ [(true, room.extract p (p + z))])) := Lib.hid (by unfold RefRow; rw [List.length_append]; exact hown3)
              have HB3 := Lib.hid hb3
              clear hown3 hgrow hb3 hown'
              go_wp2_with fail
              go_roundw
              case rel => exact ⟨k + 1, _, p + z, by omega, by go_num, by first | go_num | exact congrArg (Value.int .i64) HE.out, by omega, HS.out, HO3.out, HB3.out⟩
              case measure => simp [intOf]; omega
        · obtain rfl : k = n := by omega
          obtain ⟨a, c, hv, hc, hcm, hat⟩ := hown.form
          have hlast := readM_last (room := room) HZ.out (by rw [HN.out]; omega) (by rw [HN.out]; exact hpar)
          have hzz := (parse_le (by omega) HZ.out k l p hpar).2
          have HPK := fun W (hbw : Below wr.heap.size wr W) => Lib.hid (rpack_any (c := c) (hat.below hbw) hc (by omega) hcm (fun x hx => by have := hzz x hx; omega))
          subst hv
          have HL := Lib.hid hlast
          clear hpar hb hat hlast hzz hown
          go_wp2_with fail
          refine (HPK wr (Below.refl _ _)).out.mono ?_
          rintro e w4 ⟨rfl, hb4⟩
          have HB4 := Lib.hid hb4
          clear hb4
          by_cases q1 : (packM l).2 = 0
          · by_cases q2 : (packM l).1 = room
            · have F := Lib.hid (HL.out.trans (if_pos ⟨q1, q2⟩))
              rw [q1, q2]
              clear q1 q2
              go_wp2_with fail
              go_ret2
              exact RReadEnd.good F.out (below_step HB4.out HB.out) rfl (HO.out.below HB4.out)
            · have F := Lib.hid (HL.out.trans (if_neg (fun h => q2 h.2)))
              have q3 := str_ne q2
              rw [q1]
              clear q1 q2
              generalize (packM l).1 = s at *
              go_wp2_with fail
              go_ret2
              exact RReadEnd.bad F.out (below_step HB4.out HB.out) rfl
          · have F := Lib.hid (HL.out.trans (if_neg (fun h => q1 h.1)))
            have q3 : ((packM l).2 == 0) = false := by simp [q1]
            have q4 : ((packM l).2 != 0) = true := by simp [q1]
            clear q1
            generalize (packM l).1 = s at *
            generalize (packM l).2 = E at *
            go_wp2_with fail
            go_ret2
            exact RReadEnd.bad F.out (below_step HB4.out HB.out) rfl
  · have F := Lib.hid (readM_short hz)
    have z0 : ((room.size : Int) == 496) = false := by simp; omega
    have z1 : ((room.size : Int) != 496) = true := by simp; omega
    clear hz
    go_enter Try.func26, Try.ntmps26
    go_wp2_with fail
    go_ret2
    exact RReadEnd.bad F.out (Below.refl _ _) rfl

end Go.Proofs.Yteijagojagfecaa
