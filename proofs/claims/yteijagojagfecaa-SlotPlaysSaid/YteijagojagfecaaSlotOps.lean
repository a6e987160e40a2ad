/- The contracts of package slot above Read. -/
import Derived.Test.YteijagojagfecaaSlotRead
namespace Go.Proofs.Yteijagojagfecaa
open Go.RowKit Go.Joins
set_option linter.unusedVariables false

/-- Is there a record in slot i? -/
def hasI (l : List SlotD) (i : Int) : Bool := decide (0 ≤ i) && match l[i.toNat]? with
  | some x => x.1
  | none => false
def recI (l : List SlotD) (i : Int) : ByteArray := match l[i.toNat]? with
  | some x => x.2
  | none => ⟨#[]⟩
def freeI (l : List SlotD) : Nat := l.findIdx fun x => !x.1
def addL (l : List SlotD) (s : ByteArray) : List SlotD := if freeI l < l.length then l.set (freeI l) (true, s) else l ++ [(true, s)]
def getM (room : ByteArray) (i : Int) : ByteArray × Int := match readM room with
  | none => (⟨#[]⟩, 2)
  | some l => if hasI l i then (recI l i, 0) else (⟨#[]⟩, 6)
def setM (room : ByteArray) (i : Int) (s : ByteArray) : ByteArray × Int := match readM room with
  | none => (⟨#[]⟩, 2)
  | some l => if hasI l i then packM (l.set i.toNat (true, s)) else (⟨#[]⟩, 6)
def delM (room : ByteArray) (i : Int) : ByteArray × Int := match readM room with
  | none => (⟨#[]⟩, 2)
  | some l => if hasI l i then packM (l.set i.toNat (false, ⟨#[]⟩)) else (⟨#[]⟩, 6)
def addM (room : ByteArray) (s : ByteArray) : ByteArray × Int × Int := match readM room with
  | none => (⟨#[]⟩, 0, 2)
  | some l => if (packM (addL l s)).2 = 0 then ((packM (addL l s)).1, freeI l, 0) else (⟨#[]⟩, 0, (packM (addL l s)).2)
def leftM (room : ByteArray) : Int := match readM room with
  | none => -1
  | some l => max (494 - 2 * (l.length : Int) - sumR l - (if l.all (·.1) then 2 else 0)) (-1)

theorem hasI_some {l : List SlotD} {k : Nat} {x : SlotD} (h : l[k]? = some x) : hasI l k = x.1 := by simp [hasI, h]
theorem hasI_out {l : List SlotD} {i : Int} (h : i < 0 ∨ (l.length : Int) ≤ i) : hasI l i = false := by
  unfold hasI
  rcases h with h | h
  · simp; intro; omega
  · rw [List.getElem?_eq_none (by omega)]; simp

theorem slotCells_set (l : List SlotD) (u : Bool) (s : ByteArray) : ∀ (i : Nat), ((slotCells l).set (i * 2) (.bool u)).set (i * 2 + 1) (.string s) = slotCells (l.set i (u, s)) := by
  induction l with
  | nil => intro i; simp [slotCells]
  | cons y l ih =>
    intro i
    have e : ∀ y : SlotD, ∀ m, slotCells (y :: m) = .bool y.1 :: .string y.2 :: slotCells m := fun _ _ => rfl
    cases i with
    | zero => simp [e]
    | succ i =>
      have := ih i
      rw [show (i + 1) * 2 = i * 2 + 1 + 1 by omega, e, List.set_cons_succ, List.set_cons_succ, List.set_cons_succ, List.set_cons_succ, this, List.set_cons_succ, e]
theorem slotCells_set1 (l : List SlotD) (s : ByteArray) : ∀ (i : Nat) (x : SlotD), l[i]? = some x → (slotCells l).set (i * 2 + 1) (.string s) = slotCells (l.set i (x.1, s)) := by
  intro i x h
  rw [← slotCells_set]
  have := (slotCells_get l i x h).1
  have hi : i * 2 < (slotCells l).length := (List.getElem?_eq_some_iff.1 this).1
  have e : (slotCells l).set (i * 2) (.bool x.1) = slotCells l := by
    apply List.ext_getElem? 
    intro j
    rw [List.getElem?_set]
    split
    · rename_i hj; subst hj; rw [this]; try simp [hi]
    · rfl
  rw [e]

set_option maxRecDepth 100000 in
theorem add1_any (x : SlotD) (w : World) :
    Calls Try.prog 68 #[.agg #[.bool x.1, .string x.2]] w fun e w' => e = .returned (.bool (!x.1)) ∧ Below w.heap.size w w' := by
  go_enter Try.func68, Try.ntmps68
  go_wp2_with fail
  go_ret
  exact ⟨rfl, below_alloc (Below.refl _ _)⟩

set_option maxRecDepth 100000 in
theorem empty_any (w : World) : Calls Try.prog 42 #[] w fun e w' => e = .returned (.string (S (nul 496))) ∧ Below w.heap.size w w' := by
  go_enter Try.func42, Try.ntmps42
  go_wp2_with fail
  refine (repeat_any 496 _ (by omega)).mono ?_
  rintro e w1 ⟨rfl, hb⟩
  go_wp2_with fail
  go_ret
  exact ⟨rfl, hb⟩

/-- What find leaves. -/
def FindEnd (w : World) (room : ByteArray) (i : Int) (e : Ending) (w' : World) : Prop :=
  Below w.heap.size w w' ∧ match readM room with
    | none => e = .returned (.tuple #[.slice none 0 0, .int .i64 2])
    | some l => if hasI l i then ∃ v, e = .returned (.tuple #[v, .int .i64 0]) ∧ SlotRow w' w.heap.size v l else e = .returned (.tuple #[.slice none 0 0, .int .i64 6])
theorem FindEnd.bad {w w' : World} {room : ByteArray} {i : Int} {e : Ending} (h : readM room = none) (hb : Below w.heap.size w w') (he : e = .returned (.tuple #[.slice none 0 0, .int .i64 2])) : FindEnd w room i e w' := by
  unfold FindEnd; rw [h]; exact ⟨hb, he⟩
theorem FindEnd.no {w w' : World} {room : ByteArray} {i : Int} {e : Ending} {l : List SlotD} (h : readM room = some l) (hi : hasI l i = false) (hb : Below w.heap.size w w') (he : e = .returned (.tuple #[.slice none 0 0, .int .i64 6])) : FindEnd w room i e w' := by
  unfold FindEnd; rw [h]; simp only [hi]; exact ⟨hb, he⟩
theorem FindEnd.yes {w w' : World} {room : ByteArray} {i : Int} {e : Ending} {l : List SlotD} {v : Value} (h : readM room = some l) (hi : hasI l i = true) (hb : Below w.heap.size w w') (he : e = .returned (.tuple #[v, .int .i64 0])) (hr : SlotRow w' w.heap.size v l) : FindEnd w room i e w' := by
  unfold FindEnd; rw [h]; simp only [hi]; exact ⟨hb, v, he, hr⟩

theorem readM_len {room : ByteArray} {l : List SlotD} (h : readM room = some l) : l.length ≤ 247 ∧ sumR l ≤ 494 := by
  obtain ⟨_, _, _, h4, _⟩ := readM_some h
  omega

set_option maxRecDepth 100000 in
set_option maxHeartbeats 2000000 in
theorem find_any (room : ByteArray) (i : Int) (w : World) (hs : room.size ≤ 9223372036854775807) (h1 : -9223372036854775808 ≤ i) (h2 : i ≤ 9223372036854775807) :
    Calls Try.prog 66 #[.string room, .int .i64 i] w fun e w' => FindEnd w room i e w' := by
  go_enter Try.func66, Try.ntmps66
  go_wp2_with fail
  refine (read_any room _ hs).mono ?_
  rintro e w1 ⟨hb, hr⟩
  have HB := Lib.hid hb
  clear hb
  cases hm : readM room with
  | none =>
    rw [hm] at hr
    obtain rfl := hr
    have F := Lib.hid hm
    clear hm
    go_wp2_with fail
    go_ret2
    exact FindEnd.bad F.out HB.out rfl
  | some l =>
    rw [hm] at hr
    obtain ⟨v, rfl, hrow⟩ := hr
    obtain ⟨a, c, rfl, hc, hat⟩ := hrow.form
    have F := Lib.hid hm
    have HR := Lib.hid hrow
    have HA := Lib.hid hat
    have hll := (readM_len hm).1
    clear hm hrow hat
    by_cases hneg : i < 0
    · have F2 := Lib.hid (hasI_out (l := l) (.inl hneg))
      go_wp2_with fail
      go_ret2
      exact FindEnd.no F.out F2.out HB.out rfl
    · obtain ⟨k, rfl⟩ := Int.eq_ofNat_of_zero_le (show 0 ≤ i by omega)
      by_cases hbig : l.length ≤ k
      · have F2 := Lib.hid (hasI_out (l := l) (i := k) (.inr (by omega)))
        have b1 : (l.length : Int) ≤ k := by omega
        go_wp2_with fail
        go_ret2
        exact FindEnd.no F.out F2.out HB.out rfl
      · obtain ⟨b, off, ha, hcell⟩ := HA.out.some (show k < l.length by omega)
        have hx : l[k]? = some l[k] := List.getElem?_eq_getElem _
        obtain ⟨c0, c1⟩ := hcell k _ hx
        have F2 := hasI_some hx
        have b1 : (k : Int) < l.length := by omega
        have b2 : decide (l.length ≤ k) = false := by simp; omega
        have b3 : decide ((l.length : Int) ≤ k) = false := by simp; omega
        generalize l[k] = x at *
        clear hcell hx
        subst ha
        cases hu : x.1
        · rw [hu] at c0 F2
          have F3 := Lib.hid F2
          clear hu F2
          go_wp2_with fail
          go_ret2
          exact FindEnd.no F.out F3.out HB.out rfl
        · rw [hu] at c0 F2
          have F3 := Lib.hid F2
          clear hu F2
          go_wp2_with fail
          go_ret2
          exact FindEnd.yes F.out F3.out HB.out rfl HR.out

set_option maxRecDepth 100000 in
set_option maxHeartbeats 2000000 in
theorem getS_any (room : ByteArray) (i : Int) (w : World) (hs : room.size ≤ 9223372036854775807) (h1 : -9223372036854775808 ≤ i) (h2 : i ≤ 9223372036854775807) :
    Calls Try.prog 40 #[.string room, .int .i64 i] w fun e w' => e = .returned (.tuple #[.string (getM room i).1, .int .i64 (getM room i).2]) ∧ Below w.heap.size w w' := by
  go_enter Try.func40, Try.ntmps40
  go_wp2_with fail
  refine (find_any room i _ hs h1 h2).mono ?_
  rintro e w1 ⟨hb, hr⟩
  have HB := Lib.hid hb
  clear hb
  cases hm : readM room with
  | none =>
    rw [hm] at hr
    obtain rfl := hr
    have F := Lib.hid (show getM room i = (⟨#[]⟩, 2) by simp [getM, hm])
    clear hm
    go_wp2_with fail
    go_ret2
    rw [F.out]
    exact ⟨rfl, HB.out⟩
  | some l =>
    rw [hm] at hr
    cases hu : hasI l i
    · simp only [hu] at hr
      obtain rfl := hr
      have F := Lib.hid (show getM room i = (⟨#[]⟩, 6) by simp [getM, hm, hu])
      clear hm hu
      go_wp2_with fail
      go_ret2
      rw [F.out]
      exact ⟨rfl, HB.out⟩
    · simp only [hu] at hr
      obtain ⟨v, rfl, hrow⟩ := hr
      have F := Lib.hid (show getM room i = (recI l i, 0) by simp [getM, hm, hu])
      obtain ⟨a, c, rfl, hc, hat⟩ := hrow.form
      obtain ⟨hi0, hi1⟩ : 0 ≤ i ∧ i < l.length := by
        by_cases h : i < 0 ∨ (l.length : Int) ≤ i
        · rw [hasI_out h] at hu; cases hu
        · omega
      obtain ⟨k, rfl⟩ := Int.eq_ofNat_of_zero_le hi0
      obtain ⟨b, off, ha, hcell⟩ := hat.some (show k < l.length by omega)
      have hx : l[k]? = some l[k] := List.getElem?_eq_getElem _
      obtain ⟨c0, c1⟩ := hcell k _ hx
      have F2 := Lib.hid (show recI l k = l[k].2 by simp [recI, hx])
      have hll := (readM_len hm).1
      generalize l[k] = x at *
      clear hcell hx hm hu hrow hat
      subst ha
      go_wp2_with fail
      go_ret2
      rw [F.out, F2.out]
      exact ⟨rfl, HB.out⟩

/-- The row lies somewhere, and its cells can be written. -/
theorem SlotRow.block {w : World} {base : Nat} {v : Value} {l : List SlotD} (h : SlotRow w base v l) (hl : 0 < l.length) : ∃ g c, v = .slice (some ⟨g, 0, none⟩) l.length c ∧ l.length ≤ c := by
  rcases h.2 with ⟨rfl, h0⟩ | ⟨g, cap, cur, rfl, _, hg, hnc, _⟩
  · omega
  · exact ⟨g, cap, rfl, hnc⟩
theorem SlotRow.setRec {w : World} {base g c : Nat} {l : List SlotD} {k : Nat} {x : SlotD} (h : SlotRow w base (.slice (some ⟨g, 0, none⟩) l.length c) l) (hx : l[k]? = some x) (s : ByteArray) :
    SlotRow (w.setCell ⟨g, k * 2 + 1, none⟩ (.string s)) base (.slice (some ⟨g, 0, none⟩) l.length c) (l.set k (x.1, s)) := by
  have := (World.ownsRow.stored h (k * 2 + 1) (.string s)).1
  rw [slotCells_set1 l s k x hx] at this
  unfold SlotRow
  rw [List.length_set]
  exact this
theorem SlotRow.setBoth {w : World} {base g c : Nat} {l : List SlotD} (h : SlotRow w base (.slice (some ⟨g, 0, none⟩) l.length c) l) (k : Nat) (u : Bool) (s : ByteArray) :
    SlotRow ((w.setCell ⟨g, k * 2, none⟩ (.bool u)).setCell ⟨g, k * 2 + 1, none⟩ (.string s)) base (.slice (some ⟨g, 0, none⟩) l.length c) (l.set k (u, s)) := by
  have := (World.ownsRow.stored (World.ownsRow.stored h (k * 2) (.bool u)).1 (k * 2 + 1) (.string s)).1
  rw [slotCells_set] at this
  unfold SlotRow
  rw [List.length_set]
  exact this
theorem SlotRow.ge {w : World} {base g n c : Nat} {l : List SlotD} (h : SlotRow w base (.slice (some ⟨g, 0, none⟩) n c) l) : base ≤ g := (h.lt g rfl).1
theorem SlotRow.cells {w : World} {base g c : Nat} {l : List SlotD} {k : Nat} {x : SlotD} (h : SlotRow w base (.slice (some ⟨g, 0, none⟩) l.length c) l) (hx : l[k]? = some x) :
    w.cell? ⟨g, k * 2, none⟩ = some (.bool x.1) ∧ w.cell? ⟨g, k * 2 + 1, none⟩ = some (.string x.2) := by
  have hi := (List.getElem?_eq_some_iff.1 hx).1
  obtain ⟨e1, e2⟩ := slotCells_get l k x hx
  have x1 := h.cellAt (k * 2) (by omega)
  have x2 := h.cellAt (k * 2 + 1) (by omega)
  rw [e1] at x1; rw [e2] at x2
  exact ⟨x1, x2⟩
theorem SlotRow.frozen {w : World} {base g n c : Nat} {l : List SlotD} (h : SlotRow w base (.slice (some ⟨g, 0, none⟩) l.length c) l) (j : Nat) : w.frozen? ⟨g, j, none⟩ = false := h.frozenAt j
theorem sum_set_mem {l : List SlotD} {k : Nat} {x y : SlotD} (h : ∀ z ∈ l, z.2.size ≤ 9223372036854775807) (hy : y.2.size ≤ 9223372036854775807) : ∀ z ∈ l.set k y, z.2.size ≤ 9223372036854775807 := fun z hz => (List.mem_or_eq_of_mem_set hz).elim (h z) (fun e => by rw [e]; exact hy)
theorem readM_size {room : ByteArray} {l : List SlotD} (h : readM room = some l) : ∀ z ∈ l, z.2.size ≤ 9223372036854775807 := fun z hz => by
  have := sumR_mem hz
  have := (readM_len h).2
  omega

set_option maxRecDepth 100000 in
set_option maxHeartbeats 2000000 in
theorem setS_any (room : ByteArray) (i : Int) (s : ByteArray) (w : World) (hs : room.size ≤ 9223372036854775807) (h1 : -9223372036854775808 ≤ i) (h2 : i ≤ 9223372036854775807) (hz : s.size ≤ 9223372036854775807) :
    Calls Try.prog 45 #[.string room, .int .i64 i, .string s] w fun e w' => e = .returned (.tuple #[.string (setM room i s).1, .int .i64 (setM room i s).2]) ∧ Below w.heap.size w w' := by
  go_enter Try.func45, Try.ntmps45
  go_wp2_with fail
  refine (find_any room i _ hs h1 h2).mono ?_
  rintro e w1 ⟨hb, hr⟩
  have HB := Lib.hid hb
  clear hb
  cases hm : readM room with
  | none =>
    rw [hm] at hr
    obtain rfl := hr
    have F := Lib.hid (show setM room i s = (⟨#[]⟩, 2) by simp [setM, hm])
    clear hm
    go_wp2_with fail
    go_ret2
    rw [F.out]
    exact ⟨rfl, HB.out⟩
  | some l =>
    rw [hm] at hr
    cases hu : hasI l i
    · simp only [hu] at hr
      obtain rfl := hr
      have F := Lib.hid (show setM room i s = (⟨#[]⟩, 6) by simp [setM, hm, hu])
      clear hm hu
      go_wp2_with fail
      go_ret2
      rw [F.out]
      exact ⟨rfl, HB.out⟩
    · simp only [hu] at hr
      obtain ⟨v, rfl, hrow⟩ := hr
      have F := Lib.hid (show setM room i s = packM (l.set i.toNat (true, s)) by simp [setM, hm, hu])
      obtain ⟨hi0, hi1⟩ : 0 ≤ i ∧ i < l.length := by
        by_cases h : i < 0 ∨ (l.length : Int) ≤ i
        · rw [hasI_out h] at hu; cases hu
        · omega
      obtain ⟨k, rfl⟩ := Int.eq_ofNat_of_zero_le hi0
      obtain ⟨g, c, rfl, hc⟩ := hrow.block (show 0 < l.length by omega)
      have hx : l[k]? = some l[k] := List.getElem?_eq_getElem _
      have hxu := (hasI_some hx).symm.trans hu
      obtain ⟨c0, c1⟩ := hrow.cells hx
      have f1 := hrow.frozenAt (k * 2 + 1)
      have hnew := hrow.setRec hx s
      rw [hxu] at hnew
      have hll := (readM_len hm).1
      have hle : ((l.set k (true, s)).length : Nat) = l.length := List.length_set ..
      have hnew' := hnew
      rw [← hle] at hnew'
      obtain ⟨a', c', e', hc', hat⟩ := hnew'.form
      have hg := hrow.ge
      have hP := pack_any hat hc' (by omega) (sum_set_mem (x := (true, s)) (readM_size hm) hz)
      rw [← e', hle] at hP
      have HP := Lib.hid hP
      generalize l[k] = x at *
      clear hx hm hu hrow hat hnew hnew' e' hc' hP hxu hle
      go_wp2_with fail
      refine HP.out.mono ?_
      rintro e w2 ⟨rfl, hb2⟩
      have HB2 : Hid (Below w.heap.size w w2) := Lib.hid (below_step hb2 (HB.out.setCell (p := ⟨g, k * 2 + 1, none⟩) hg _))
      clear hb2
      go_wp2_with fail
      go_ret2
      rw [F.out]
      exact ⟨rfl, HB2.out⟩

set_option maxRecDepth 100000 in
set_option maxHeartbeats 2000000 in
theorem delS_any (room : ByteArray) (i : Int) (w : World) (hs : room.size ≤ 9223372036854775807) (h1 : -9223372036854775808 ≤ i) (h2 : i ≤ 9223372036854775807) :
    Calls Try.prog 46 #[.string room, .int .i64 i] w fun e w' => e = .returned (.tuple #[.string (delM room i).1, .int .i64 (delM room i).2]) ∧ Below w.heap.size w w' := by
  go_enter Try.func46, Try.ntmps46
  go_wp2_with fail
  refine (find_any room i _ hs h1 h2).mono ?_
  rintro e w1 ⟨hb, hr⟩
  have HB := Lib.hid hb
  clear hb
  cases hm : readM room with
  | none =>
    rw [hm] at hr
    obtain rfl := hr
    have F := Lib.hid (show delM room i = (⟨#[]⟩, 2) by simp [delM, hm])
    clear hm
    go_wp2_with fail
    go_ret2
    rw [F.out]
    exact ⟨rfl, HB.out⟩
  | some l =>
    rw [hm] at hr
    cases hu : hasI l i
    · simp only [hu] at hr
      obtain rfl := hr
      have F := Lib.hid (show delM room i = (⟨#[]⟩, 6) by simp [delM, hm, hu])
      clear hm hu
      go_wp2_with fail
      go_ret2
      rw [F.out]
      exact ⟨rfl, HB.out⟩
    · simp only [hu] at hr
      obtain ⟨v, rfl, hrow⟩ := hr
      have F := Lib.hid (show delM room i = packM (l.set i.toNat (false, ⟨#[]⟩)) by simp [delM, hm, hu])
      obtain ⟨hi0, hi1⟩ : 0 ≤ i ∧ i < l.length := by
        by_cases h : i < 0 ∨ (l.length : Int) ≤ i
        · rw [hasI_out h] at hu; cases hu
        · omega
      obtain ⟨k, rfl⟩ := Int.eq_ofNat_of_zero_le hi0
      obtain ⟨g, c, rfl, hc⟩ := hrow.block (show 0 < l.length by omega)
      have hx : l[k]? = some l[k] := List.getElem?_eq_getElem _
      obtain ⟨c0, c1⟩ := hrow.cells hx
      have f0 := hrow.frozenAt (k * 2)
      have f1 := hrow.frozenAt (k * 2 + 1)
      have hnew := hrow.setBoth k false ⟨#[]⟩
      have hll := (readM_len hm).1
      have hle : ((l.set k (false, ⟨#[]⟩)).length : Nat) = l.length := List.length_set ..
      have hnew' := hnew
      rw [← hle] at hnew'
      obtain ⟨a', c', e', hc', hat⟩ := hnew'.form
      have hg := hrow.ge
      have hP := pack_any hat hc' (by omega) (sum_set_mem (x := (false, ⟨#[]⟩)) (readM_size hm) (Nat.zero_le _))
      rw [← e', hle] at hP
      have HP := Lib.hid hP
      generalize l[k] = x at *
      clear hx hm hu hrow hat hnew hnew' e' hc' hP hle
      go_wp2_with fail
      refine HP.out.mono ?_
      rintro e w2 ⟨rfl, hb2⟩
      have HB2 : Hid (Below w.heap.size w w2) := Lib.hid (below_step hb2 ((HB.out.setCell (p := ⟨g, k * 2, none⟩) hg _).setCell (p := ⟨g, k * 2 + 1, none⟩) hg _))
      clear hb2
      go_wp2_with fail
      go_ret2
      rw [F.out]
      exact ⟨rfl, HB2.out⟩

end Go.Proofs.Yteijagojagfecaa
