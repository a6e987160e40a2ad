/- The contracts of slot.Add and slot.Left. -/
import Derived.Test.YteijagojagfecaaSlotOps
namespace Go.Proofs.Yteijagojagfecaa
open Go.RowKit Go.Joins
set_option linter.unusedVariables false

theorem freeI_lt {l : List SlotD} (h : l.any (fun x => !x.1) = true) : freeI l < l.length ∧ idxM (fun x => !x.1) l = freeI l := by
  refine ⟨?_, by simp only [idxM, h, if_true]; rfl⟩
  unfold freeI
  rw [List.findIdx_lt_length]
  obtain ⟨x, hx, hp⟩ := List.any_eq_true.1 h
  exact ⟨x, hx, hp⟩
theorem freeI_none {l : List SlotD} (h : l.any (fun x => !x.1) = false) : freeI l = l.length ∧ idxM (fun x => !x.1) l = -1 := by
  refine ⟨?_, by simp only [idxM, h]; rfl⟩
  unfold freeI
  rw [List.findIdx_eq_length]
  intro x hx
  have := List.any_eq_false.1 h x hx
  simpa using this
theorem addL_size {l : List SlotD} {s : ByteArray} (h : ∀ z ∈ l, z.2.size ≤ 9223372036854775807) (hz : s.size ≤ 9223372036854775807) : ∀ z ∈ addL l s, z.2.size ≤ 9223372036854775807 := by
  intro z hz'
  unfold addL at hz'
  split at hz'
  · exact (List.mem_or_eq_of_mem_set hz').elim (h z) (fun e => by rw [e]; exact hz)
  · rcases List.mem_append.1 hz' with hz' | hz'
    · exact h z hz'
    · simp at hz'; subst hz'; exact hz

set_option maxRecDepth 100000 in
set_option maxHeartbeats 4000000 in
theorem addS_any (room s : ByteArray) (w : World) (hs : room.size ≤ 9223372036854775807) (hz : s.size ≤ 9223372036854775807) :
    Calls Try.prog 44 #[.string room, .string s] w fun e w' => e = .returned (.tuple #[.string (addM room s).1, .int .i64 (addM room s).2.1, .int .i64 (addM room s).2.2]) ∧ Below w.heap.size w w' := by
  go_enter Try.func44, Try.ntmps44
  go_wp2_with fail
  refine (read_any room _ hs).mono ?_
  rintro e w1 ⟨hb, hr⟩
  have HB := Lib.hid hb
  clear hb
  cases hm : readM room with
  | none =>
    rw [hm] at hr
    obtain rfl := hr
    have F := Lib.hid (show addM room s = (⟨#[]⟩, 0, 2) by simp [addM, hm])
    clear hm
    go_wp2_with fail
    go_ret3
    rw [F.out]
    exact ⟨rfl, HB.out⟩
  | some l =>
    rw [hm] at hr
    obtain ⟨v, rfl, hrow⟩ := hr
    have hll := (readM_len hm).1
    have hszs := addL_size (s := s) (readM_size hm) hz
    have hF : addM room s = if (packM (addL l s)).2 = 0 then ((packM (addL l s)).1, (freeI l : Int), 0) else (⟨#[]⟩, 0, (packM (addL l s)).2) := by simp [addM, hm]
    obtain ⟨a, c, rfl, hc, hat⟩ := hrow.form
    have HI := Lib.hid (indexFunc_any (c := c) hat (by omega) 68 (fun x => !x.1) add1_any (fun args W => by kernel_rfl))
    have HF := Lib.hid hF
    have HR := Lib.hid hrow
    have HZ := Lib.hid hszs
    clear hm hF hrow hat hszs
    cases hany : l.any (fun x => !x.1)
    · obtain ⟨hk, hidx⟩ := freeI_none hany
      have hadd : addL l s = l ++ [(true, s)] := by unfold addL; rw [if_neg (by omega)]
      rw [hidx] at HI
      rw [hk] at HF
      rw [hadd] at HF HZ
      clear hany hk hidx hadd
      obtain ⟨i0, hi, hz0, hz1, hz2⟩ := info_parts Try.infoSlot
      go_wp2_with fail
      refine HI.out.mono ?_
      rintro e w2 ⟨rfl, hb2⟩
      have hown : w2.ownsRow w.heap.size 45 2 (.slice a l.length c) l.length (slotCells l) := HR.out.below hb2
      have HB2 := Lib.hid (below_step hb2 HB.out)
      have hsz := HB2.out.size
      clear hb2
      go_wp2_with (at_builtin; refine wpList_append_own _ rfl (.tmp 25) (.tmp 27) 42 rfl w.heap.size 45 i0 (.agg #[.bool false, .string ⟨#[]⟩]) 2 24 Try.underlying42 hi hz0 hz1 hz2 rfl (by decide) _ _ _ rfl (hown.alloc _) ⟨w2.heap.size, 0, none⟩ 1 1 [.bool false, .string ⟨#[]⟩] rfl rfl ?c1 ?c2 ?c3 ?c4 ?c5 ?_)
      case c1 => exact cell_pair _ _ _ _
      case c2 => intro u hu; simp at hu; rcases hu with rfl | rfl <;> rfl
      case c3 => unfold maxLen; omega
      case c4 => omega
      case c5 => simp; omega
      intro v' w3 hown3 hgrow _
      have hb3 : Below w.heap.size w w3 := (HB2.out.alloc hsz _).grown hgrow (by simp; omega) (fun q hq => (hown.lt q hq).1)
      rw [slotCells_snoc] at hown3
      have hrow3 : SlotRow w3 w.heap.size v' (l ++ [(false, ⟨#[]⟩)]) := by unfold SlotRow; rw [List.length_append]; exact hown3
      obtain ⟨g, cap, hv', hcap⟩ := hrow3.block (by simp)
      rw [hv'] at hrow3
      have hxk : (l ++ [((false, ⟨#[]⟩) : SlotD)])[l.length]? = some (false, ⟨#[]⟩) := by simp
      obtain ⟨c0, c1⟩ := hrow3.cells hxk
      have f0 := hrow3.frozenAt (l.length * 2)
      have f1 := hrow3.frozenAt (l.length * 2 + 1)
      have hset : (l ++ [((false, ⟨#[]⟩) : SlotD)]).set l.length (true, s) = l ++ [(true, s)] := by simp
      have hnew := hrow3.setBoth l.length true s
      rw [hset] at hnew
      have hg := hrow3.ge
      have hlen : (l ++ [((false, ⟨#[]⟩) : SlotD)]).length = l.length + 1 := by simp
      have hlen2 : (l ++ [((true, s) : SlotD)]).length = l.length + 1 := by simp
      rw [hlen] at hnew hv' hcap
      have hnew' := hnew
      rw [← hlen2] at hnew'
      obtain ⟨a', c', e', hc', hat⟩ := hnew'.form
      have hP := pack_any hat hc' (by rw [hlen2]; omega) HZ.out
      rw [← e', hlen2] at hP
      have HP := Lib.hid hP
      have HB3 := Lib.hid hb3
      rw [hv']
      clear hown3 hgrow hb3 hrow3 hxk hset hnew hnew' e' hc' hat hP hlen hlen2 hv' hown
      generalize packM (l ++ [(true, s)]) = R at *
      obtain ⟨R1, R2⟩ := R
      have l1 : (l.length : Int) < (l.length : Int) + 1 := by omega
      go_wp2_with fail
      refine HP.out.mono ?_
      rintro e w4 ⟨rfl, hb4⟩
      have HB4 : Hid (Below w.heap.size w w4) := Lib.hid (below_step hb4 ((HB3.out.setCell (p := ⟨g, l.length * 2, none⟩) hg _).setCell (p := ⟨g, l.length * 2 + 1, none⟩) hg _))
      clear hb4
      by_cases hR : R2 = 0
      · have F := Lib.hid (HF.out.trans (if_pos hR))
        subst hR
        go_wp2_with fail
        go_ret3
        rw [F.out]
        exact ⟨rfl, HB4.out⟩
      · have F := Lib.hid (HF.out.trans (if_neg hR))
        have q1 : (R2 == 0) = false := by simp [hR]
        have q2 : (R2 != 0) = true := by simp [hR]
        clear hR
        go_wp2_with fail
        go_ret3
        rw [F.out]
        exact ⟨rfl, HB4.out⟩
    · obtain ⟨hk, hidx⟩ := freeI_lt hany
      have hadd : addL l s = l.set (freeI l) (true, s) := by unfold addL; rw [if_pos hk]
      rw [hidx] at HI
      rw [hadd] at HF HZ
      clear hany hidx hadd
      generalize freeI l = k at *
      go_wp2_with fail
      refine HI.out.mono ?_
      rintro e w2 ⟨rfl, hb2⟩
      have hrow := HR.out.below hb2
      have HB2 := Lib.hid (below_step hb2 HB.out)
      clear hb2
      obtain ⟨g, c2, e2, hc2⟩ := hrow.block (show 0 < l.length by omega)
      rw [e2] at hrow
      have e2a : a = some ⟨g, 0, none⟩ := by injection e2
      subst e2a
      have hx : l[k]? = some l[k] := List.getElem?_eq_getElem _
      obtain ⟨c0, c1⟩ := hrow.cells hx
      have f0 := hrow.frozenAt (k * 2)
      have f1 := hrow.frozenAt (k * 2 + 1)
      have e2c : c = c2 := by injection e2
      subst e2c
      have hnew := hrow.setBoth k true s
      have hle : ((l.set k (true, s)).length : Nat) = l.length := List.length_set ..
      have hnew' := hnew
      rw [← hle] at hnew'
      obtain ⟨a', c', e', hc', hat⟩ := hnew'.form
      have hg := hrow.ge
      have hP := pack_any hat hc' (by omega) HZ.out
      rw [← e', hle] at hP
      have HP := Lib.hid hP
      generalize l[k] = x at *
      clear hx hrow hat hnew hnew' e' hc' hP hle e2
      generalize packM (l.set k (true, s)) = R at *
      obtain ⟨R1, R2⟩ := R
      have k1 : (k : Int) < l.length := by omega
      go_wp2_with fail
      refine HP.out.mono ?_
      rintro e w4 ⟨rfl, hb4⟩
      have HB4 : Hid (Below w.heap.size w w4) := Lib.hid (below_step hb4 ((HB2.out.setCell (p := ⟨g, k * 2, none⟩) hg _).setCell (p := ⟨g, k * 2 + 1, none⟩) hg _))
      clear hb4
      by_cases hR : R2 = 0
      · have F := Lib.hid (HF.out.trans (if_pos hR))
        subst hR
        go_wp2_with fail
        go_ret3
        rw [F.out]
        exact ⟨rfl, HB4.out⟩
      · have F := Lib.hid (HF.out.trans (if_neg hR))
        have q1 : (R2 == 0) = false := by simp [hR]
        have q2 : (R2 != 0) = true := by simp [hR]
        clear hR
        go_wp2_with fail
        go_ret3
        rw [F.out]
        exact ⟨rfl, HB4.out⟩

end Go.Proofs.Yteijagojagfecaa
