/- The contract of slot.Read. -/
import Derived.Test.YteijagojagfecaaSlotPack2
namespace Go.Proofs.Yteijagojagfecaa
open Go.RowKit Go.Joins
set_option linter.unusedVariables false

/-- A row of slots of the call's own. -/
def SlotRow (w : World) (base : Nat) (v : Value) (l : List SlotD) : Prop := w.ownsRow base 45 2 v l.length (slotCells l)
theorem SlotRow.form {w : World} {base : Nat} {v : Value} {l : List SlotD} (h : SlotRow w base v l) : ∃ a c, v = .slice a l.length c ∧ l.length ≤ c ∧ SlotsAt w a l := by
  rcases h.2 with ⟨rfl, h0⟩ | ⟨g, cap, cur, rfl, _, hg, hnc, _⟩
  · exact ⟨none, 0, by rw [h0], by omega, .inl (List.eq_nil_of_length_eq_zero h0)⟩
  · refine ⟨_, cap, rfl, hnc, .inr ⟨g, 0, rfl, fun i x hx => ?_⟩⟩
    have hi := (List.getElem?_eq_some_iff.1 hx).1
    obtain ⟨e1, e2⟩ := slotCells_get l i x hx
    have x1 := h.cellAt (i * 2) (by omega)
    have x2 := h.cellAt (i * 2 + 1) (by omega)
    rw [e1] at x1; rw [e2] at x2
    simp only [Nat.zero_add]
    exact ⟨x1, x2⟩
theorem SlotRow.nil (w : World) (base : Nat) : SlotRow w base (.slice none 0 0) [] := World.ownsRow_nil _ _ _ _
theorem SlotRow.below {w w' : World} {base : Nat} {v : Value} {l : List SlotD} (h : SlotRow w base v l) (hb : Below w.heap.size w w') : SlotRow w' base v l :=
  ownsRow_touch h (Touch.of_below hb : Touch [] w w') (fun _ _ h => by cases h)

/-- What Read leaves. -/
def ReadEnd (w : World) (room : ByteArray) (e : Ending) (w' : World) : Prop :=
  Below w.heap.size w w' ∧ match readM room with
    | none => e = .returned (.tuple #[.slice none 0 0, .int .i64 2])
    | some l => ∃ v, e = .returned (.tuple #[v, .int .i64 0]) ∧ SlotRow w' w.heap.size v l
theorem ReadEnd.none {w w' : World} {room : ByteArray} {e : Ending} (h : readM room = none) (hb : Below w.heap.size w w') (he : e = .returned (.tuple #[.slice none 0 0, .int .i64 2])) : ReadEnd w room e w' := by
  unfold ReadEnd; rw [h]; exact ⟨hb, he⟩
theorem ReadEnd.some {w w' : World} {room : ByteArray} {e : Ending} {l : List SlotD} {v : Value} (h : readM room = some l) (hb : Below w.heap.size w w') (he : e = .returned (.tuple #[v, .int .i64 0])) (hr : SlotRow w' w.heap.size v l) : ReadEnd w room e w' := by
  unfold ReadEnd; rw [h]; exact ⟨hb, v, he, hr⟩

theorem parse_step {room : ByteArray} {n k : Nat} {l : List SlotD} {p : Nat} (h : parseTo room n k = some (l, p)) :
    parseTo room n (k + 1) = if leN (cut room (2 + 2 * k) 2) = 0 then some (l ++ [(false, ⟨#[]⟩)], p)
      else if 496 - (p : Int) < leN (cut room (2 + 2 * k) 2) - 1 then none
      else some (l ++ [(true, room.extract p (p + ((leN (cut room (2 + 2 * k) 2)).toNat - 1)))], p + ((leN (cut room (2 + 2 * k) 2)).toNat - 1)) := by
  conv => lhs; unfold parseTo
  rw [h]
theorem parse_none {room : ByteArray} {n : Nat} : ∀ {k j : Nat}, k ≤ j → parseTo room n k = none → parseTo room n j = none
  | k, 0, hk, h => by
    obtain rfl : k = 0 := by omega
    exact h
  | k, j + 1, hk, h => by
    by_cases e : k = j + 1
    · subst e; exact h
    · have := parse_none (j := j) (by omega) h
      unfold parseTo; rw [this]
theorem parse_le {room : ByteArray} {n : Nat} (hn : 2 * n ≤ 494) (hr : room.size = 496) : ∀ k l p, parseTo room n k = some (l, p) → p ≤ 496 ∧ ∀ x ∈ l, x.2.size ≤ 496
  | 0, l, p, h => by simp [parseTo] at h; rw [← h.2, h.1]; exact ⟨by omega, by simp⟩
  | k + 1, l, p, h => by
    cases hk : parseTo room n k with
    | none => rw [parse_none (Nat.le_succ k) hk] at h; cases h
    | some q =>
      obtain ⟨l', p'⟩ := q
      obtain ⟨ih1, ih2⟩ := parse_le hn hr k l' p' hk
      rw [parse_step hk] at h
      split at h
      · cases h
        refine ⟨ih1, fun x hx => ?_⟩
        rcases List.mem_append.1 hx with hx | hx
        · exact ih2 x hx
        · simp at hx; subst hx; exact Nat.zero_le _
      · split at h
        · cases h
        · cases h
          have hb := (cut_leN room (2 + 2 * k) 2 (by omega)).1
          refine ⟨by omega, fun x hx => ?_⟩
          rcases List.mem_append.1 hx with hx | hx
          · exact ih2 x hx
          · simp at hx; subst hx
            simp only
            rw [ByteArray.size_extract]; omega
theorem readM_short {room : ByteArray} (h : room.size ≠ 496) : readM room = none := by
  unfold readM; rw [if_neg (fun hh => h hh.1)]
theorem readM_many {room : ByteArray} (h : 494 < 2 * slotN room) : readM room = none := by
  unfold readM; rw [if_neg (fun hh => by omega)]
theorem readM_cut {room : ByteArray} {k : Nat} (hk : k ≤ slotN room) (h : parseTo room (slotN room) k = none) : readM room = none := by
  unfold readM
  rw [parse_none hk h]
  split <;> rfl
theorem readM_last {room : ByteArray} {l : List SlotD} {p : Nat} (hs : room.size = 496) (hn : 2 * slotN room ≤ 494) (h : parseTo room (slotN room) (slotN room) = some (l, p)) :
    readM room = if (packM l).2 = 0 ∧ (packM l).1 = room then some l else none := by
  unfold readM
  rw [if_pos ⟨hs, hn⟩, h]

theorem Try.infoSlot : (Try.prog.info? 45).map (fun i => (i.zero, i.size, i.bytes)) = some (some (.agg #[.bool false, .string ⟨#[]⟩]), 2, 24) := by kernel_rfl
theorem leN2_bd (s : ByteArray) (a : Nat) : 0 ≤ leN (cut s a 2) ∧ leN (cut s a 2) < 65536 := by
  have h := leN_bd (cut s a 2)
  have hl : (cut s a 2).length ≤ 2 := by unfold cut; simp; omega
  have : (256 : Int) ^ (cut s a 2).length ≤ 65536 := by
    generalize (cut s a 2).length = n at *
    rcases n with _ | _ | _ | n <;> first | decide | omega
  omega

set_option maxRecDepth 100000 in
set_option maxHeartbeats 4000000 in
theorem read_any (room : ByteArray) (w : World) (hs : room.size ≤ 9223372036854775807) : Calls Try.prog 47 #[.string room] w fun e w' => ReadEnd w room e w' := by
  by_cases hz : room.size = 496
  · obtain ⟨n, hn⟩ : ∃ n : Nat, leN (cut room 0 2) = n := ⟨(leN (cut room 0 2)).toNat, by have := leN2_bd room 0; omega⟩
    have hnb : n < 65536 := by have := leN2_bd room 0; omega
    have hsn : slotN room = n := by unfold slotN; rw [hn]; simp
    have hG := fun W => get_any room 0 2 W (by omega) (by omega) hs
    rw [hn] at hG
    have HG := fun W => Lib.hid (hG W)
    have HN := Lib.hid hsn
    have HZ := Lib.hid hz
    have z0 : ((room.size : Int) == 496) = true := by simp [hz]
    have z1 : ((room.size : Int) != 496) = false := by simp [hz]
    clear hG hn hsn hz
    by_cases hbig : 494 < 2 * n
    · have F := Lib.hid (readM_many (room := room) (by rw [HN.out]; exact hbig))
      go_enter Try.func47, Try.ntmps47
      go_wp2_with fail
      refine (HG _).out.mono ?_
      rintro e w1 ⟨rfl, rfl⟩
      go_wp2_with fail
      go_ret2
      exact ReadEnd.none F.out (Below.refl _ _) rfl
    · obtain ⟨i0, hi, hz0, hz1, hz2⟩ := info_parts Try.infoSlot
      go_enter Try.func47, Try.ntmps47
      go_wp2_with fail
      refine (HG _).out.mono ?_
      rintro e w1 ⟨rfl, rfl⟩
      go_wp2_with fail
      go_loopw [6, 7, 8, 9, 10, 11, 30] (fun pv v _ _ _ _ c wr => ∃ (k : Nat) (l : List SlotD) (p : Nat), k ≤ n ∧ c = .int .i64 k ∧ pv = .int .i64 p ∧ p ≤ 496 ∧ parseTo room n k = some (l, p) ∧ SlotRow wr w.heap.size v l ∧ Below w.heap.size w wr) (fun _ _ _ _ _ _ c _ => n - (intOf c).toNat)
      case atStart => exact ⟨0, [], 2 + 2 * n, Nat.zero_le _, rfl, by go_num, by omega, rfl, SlotRow.nil _ _, Below.refl _ _⟩
      case round =>
        obtain ⟨k, l, p, hk, rfl, rfl, hp, hpar, hown, hb⟩ := hrel
        have HB := Lib.hid hb
        have HP := Lib.hid hpar
        have HO := Lib.hid hown
        have hll : l.length ≤ 300 := by rw [parseTo_length _ _ _ _ _ hpar]; omega
        by_cases hlt : k < n
        · have hstep := parse_step hpar
          have hkb := leN2_bd room (2 + 2 * k)
          have hG := fun W => get_any room (2 + 2 * k) 2 W (by omega) (by have := HZ.out; omega) hs
          have hsz := hb.size
          clear hpar hb
          have hown' : wr.ownsRow w.heap.size 45 2 _ l.length (slotCells l) := hown
          by_cases h0 : leN (cut room (2 + 2 * k) 2) = 0
          · rw [h0] at hG
            rw [if_pos h0] at hstep
            have HG1 := fun W => Lib.hid (hG W)
            have HS := Lib.hid hstep
            clear hG hstep hkb h0 hown
            go_wp2_with fail
            refine (HG1 _).out.mono ?_
            rintro e w2 ⟨rfl, rfl⟩
            go_wp2_with (at_builtin; refine wpList_append_own _ rfl (.tmp 43) (.tmp 45) 42 rfl w.heap.size 45 i0 (.agg #[.bool false, .string ⟨#[]⟩]) 2 24 Try.underlying42 hi hz0 hz1 hz2 rfl (by decide) _ _ _ rfl (hown'.alloc _) ⟨wr.heap.size, 0, none⟩ 1 1 [.bool false, .string ⟨#[]⟩] rfl rfl ?c1 ?c2 ?c3 ?c4 ?c5 ?_)
            case c1 => exact cell_pair _ _ _ _
            case c2 => intro u hu; simp at hu; rcases hu with rfl | rfl <;> rfl
            case c3 => unfold maxLen; omega
            case c4 => omega
            case c5 => simp; omega
            intro v' w3 hown3 hgrow _
            have hb3 : Below w.heap.size w w3 := (HB.out.alloc hsz _).grown hgrow (by simp; omega) (fun q hq => (hown'.lt q hq).1)
            rw [slotCells_snoc] at hown3
            have HO3 : Hid (SlotRow w3 w.heap.size v' (l ++ [(false, ⟨#[]⟩)])) := Lib.hid (by unfold SlotRow; rw [List.length_append]; exact hown3)
            have HB3 := Lib.hid hb3
            clear hown3 hgrow hb3 hown'
            go_wp2_with fail
            go_roundw
            case rel => exact ⟨k + 1, _, p, by omega, by go_num, rfl, hp, HS.out, HO3.out, HB3.out⟩
            case measure => simp [intOf]; omega
          · obtain ⟨z, hz⟩ : ∃ z : Nat, leN (cut room (2 + 2 * k) 2) = (z : Int) + 1 := ⟨(leN (cut room (2 + 2 * k) 2) - 1).toNat, by omega⟩
            rw [if_neg h0, hz] at hstep
            rw [hz] at hG
            have HG1 := fun W => Lib.hid (hG W)
            have e1 : ((z : Int) + 1).toNat - 1 = z := by omega
            rw [e1] at hstep
            have z3 : ((z : Int) + 1 == 0) = false := by simp; omega
            have zb : z < 65535 := by omega
            by_cases hbig2 : 496 - (p : Int) < z
            · rw [if_pos (by omega)] at hstep
              have F := Lib.hid (readM_cut (room := room) (k := k + 1) (by rw [HN.out]; omega) (by rw [HN.out]; exact hstep))
              clear hG hstep hkb h0 hown hz e1 hown'
              go_wp2_with fail
              refine (HG1 _).out.mono ?_
              rintro e w2 ⟨rfl, rfl⟩
              go_wp2_with fail
              go_ret2
              exact ReadEnd.none F.out HB.out rfl
            · rw [if_neg (by omega)] at hstep
              have HS := Lib.hid hstep
              have y0 := HZ.out
              have y1 : p ≤ room.size := by omega
              have y2 : p + z ≤ room.size := by omega
              have y3 : (p : Int) ≤ room.size := by omega
              have y4 : (p : Int) + z ≤ room.size := by omega
              have y5 : (room.size : Int) ≤ 496 := by omega
              clear hG hstep hkb h0 hown hz e1 y0
              go_wp2_with fail
              refine (HG1 _).out.mono ?_
              rintro e w2 ⟨rfl, rfl⟩
              go_wp2_with (at_builtin; refine wpList_append_own _ rfl (.tmp 54) (.tmp 62) 42 rfl w.heap.size 45 i0 (.agg #[.bool false, .string ⟨#[]⟩]) 2 24 Try.underlying42 hi hz0 hz1 hz2 rfl (by decide) _ _ _ rfl (hown'.alloc _) ⟨wr.heap.size, 0, none⟩ 1 1 [.bool true, .string (room.extract p (p + z))] rfl rfl ?c1 ?c2 ?c3 ?c4 ?c5 ?_)
              case c1 => exact cell_pair _ _ _ _
              case c2 => intro u hu; simp at hu; rcases hu with rfl | rfl <;> rfl
              case c3 => unfold maxLen; omega
              case c4 => omega
              case c5 => simp; omega
              intro v' w3 hown3 hgrow _
              have hb3 : Below w.heap.size w w3 := (HB.out.alloc hsz _).grown hgrow (by simp; omega) (fun q hq => (hown'.lt q hq).1)
              rw [slotCells_snoc] at hown3
              have HO3 : Hid (SlotRow w3 w.heap.size v' (l ++ [(true, room.extract p (p + z))])) := Lib.hid (by unfold SlotRow; rw [List.length_append]; exact hown3)
              have HB3 := Lib.hid hb3
              clear hown3 hgrow hb3 hown'
              go_wp2_with fail
              go_roundw
              case rel => exact ⟨k + 1, _, p + z, by omega, by go_num, by go_num, by omega, HS.out, HO3.out, HB3.out⟩
              case measure => simp [intOf]; omega
        · obtain rfl : k = n := by omega
          obtain ⟨a, c, hv, hc, hat⟩ := hown.form
          have hlast := readM_last (room := room) HZ.out (by rw [HN.out]; omega) (by rw [HN.out]; exact hpar)
          have hzz := (parse_le (by omega) HZ.out k l p hpar).2
          have HPK := fun W (hbw : Below wr.heap.size wr W) => Lib.hid (pack_any (c := c) (hat.below hbw) hc (by omega) (fun x hx => by have := hzz x hx; omega))
          subst hv
          have HL := Lib.hid hlast
          clear hpar hb hat hlast hzz hown
          go_wp2_with fail
          refine (HPK wr (Below.refl _ _)).out.mono ?_
          rintro e w4 ⟨rfl, hb4⟩
          have HB4 := Lib.hid hb4
          clear hb4
          by_cases q1 : (packM l).2 = 0
          · by_cases q2 : (packM l).1 = room
            · have F := Lib.hid (HL.out.trans (if_pos ⟨q1, q2⟩))
              rw [q1, q2]
              clear q1 q2
              go_wp2_with fail
              go_ret2
              exact ReadEnd.some F.out (below_step HB4.out HB.out) rfl (HO.out.below HB4.out)
            · have F := Lib.hid (HL.out.trans (if_neg (fun h => q2 h.2)))
              have q3 := str_ne q2
              rw [q1]
              clear q1 q2
              generalize (packM l).1 = s at *
              go_wp2_with fail
              go_ret2
              exact ReadEnd.none F.out (below_step HB4.out HB.out) rfl
          · have F := Lib.hid (HL.out.trans (if_neg (fun h => q1 h.1)))
            have q3 : ((packM l).2 == 0) = false := by simp [q1]
            have q4 : ((packM l).2 != 0) = true := by simp [q1]
            clear q1
            generalize (packM l).1 = s at *
            generalize (packM l).2 = E at *
            go_wp2_with fail
            go_ret2
            exact ReadEnd.none F.out (below_step HB4.out HB.out) rfl
  · have F := Lib.hid (readM_short hz)
    have z0 : ((room.size : Int) == 496) = false := by simp; omega
    have z1 : ((room.size : Int) != 496) = true := by simp; omega
    clear hz
    go_enter Try.func47, Try.ntmps47
    go_wp2_with fail
    go_ret2
    exact ReadEnd.none F.out (Below.refl _ _) rfl

end Go.Proofs.Yteijagojagfecaa
