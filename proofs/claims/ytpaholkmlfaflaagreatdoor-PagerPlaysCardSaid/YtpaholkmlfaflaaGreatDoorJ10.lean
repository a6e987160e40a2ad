/- Lemmas on the way to the statement: RefM, Rel, Rel2, Rel3, Rel4, Rel5, Play, Nil11. -/
import Derived.Test.YtpaholkmlfaflaaGreatDoorJ9
namespace Go.Proofs.YtpaholkmlfaflaaGreatDoor
open Go.RowKit
set_option linter.unusedVariables false
/-- All pages: kinds and rooms by their numbers, the free ones, the roots. -/
structure SM where
  kinds : List Int
  rooms : List ByteArray
  free : List Int
  roots : List Int
def firstF (s : SM) : Int := s.free.getLast?.getD 0
def rootsL (l : List Int) : List UInt8 := (l.map fun x => leB x 8).flatten
def headS (s : SM) : ByteArray := fillR (S (leB s.kinds.length 4 ++ (leB (firstF s) 4 ++ rootsL s.roots))) 496
def fixS (s : SM) : SM := { s with rooms := s.rooms.set 0 (headS s) }
structure RM where
  most : Nat
  room : Nat
  sure : SM
  way : SM
  dirty : List Bool
def newS : SM := fixS ⟨[1], [⟨#[]⟩], [], List.replicate 8 0⟩
def newR (most room : Nat) : RM := ⟨most, room, newS, newS, List.replicate most false⟩
def cntR (R : RM) : Nat := (R.dirty.filter id).length
def bigR (R : RM) (l : List Int) : Bool := decide (R.room < cntR R + (l.filter fun i => !(R.dirty.getD i.toNat false)).length)
def markR (d : List Bool) (l : List Int) : List Bool := l.foldl (fun d i => d.set i.toNat true) d
def lenR (R : RM) : Int := R.way.kinds.length
def writeR (R : RM) (no kind : Int) (room : ByteArray) : Int × RM :=
  if no < 1 ∨ lenR R ≤ no ∨ kind < 2 ∨ 254 < kind then (1, R) else if 496 < room.size then (3, R) else if bigR R [no] = true then (10, R) else
  (0, { R with way := { R.way with kinds := R.way.kinds.set no.toNat kind, rooms := R.way.rooms.set no.toNat (fillR room 496) }, dirty := markR R.dirty [no] })
/-- A free page is taken. -/
def takeS (s : SM) (f kind : Int) : SM := fixS { s with free := s.free.dropLast, kinds := s.kinds.set f.toNat kind, rooms := s.rooms.set f.toNat (fillR ⟨#[]⟩ 496) }
/-- A new page is taken. -/
def growS (s : SM) (kind : Int) : SM := fixS { s with kinds := s.kinds ++ [kind], rooms := s.rooms ++ [fillR ⟨#[]⟩ 496] }
/-- A page is given back. -/
def backS (s : SM) (no : Int) : SM := fixS { s with kinds := s.kinds.set no.toNat 255, rooms := s.rooms.set no.toNat (fillR (S (leB (firstF s) 4)) 496), free := s.free ++ [no] }
def rootS (s : SM) (i : Nat) (n : Int) : SM := fixS { s with roots := s.roots.set i n }
def allocR (R : RM) (kind : Int) : Int × Int × RM :=
  if kind < 2 ∨ 254 < kind then (0, 1, R) else
  match R.way.free.getLast? with
  | some f => if bigR R [f, 0] = true then (0, 10, R) else (f, 0, { R with way := takeS R.way f kind, dirty := markR R.dirty [f, 0] })
  | none => if (R.most : Int) ≤ lenR R then (0, 8, R) else if bigR R [lenR R, 0] = true then (0, 10, R) else (lenR R, 0, { R with way := growS R.way kind, dirty := markR R.dirty [lenR R, 0] })
def giveR (R : RM) (no : Int) : Int × RM :=
  if no < 1 ∨ lenR R ≤ no then (1, R) else if R.way.kinds.getD no.toNat 0 = 255 then (6, R) else if bigR R [no, 0] = true then (10, R) else
  (0, { R with way := backS R.way no, dirty := markR R.dirty [no, 0] })
def setRootR (R : RM) (i n : Int) : Int × RM :=
  if i < 0 ∨ 7 < i then (1, R) else if bigR R [0] = true then (10, R) else (0, { R with way := rootS R.way i.toNat n, dirty := markR R.dirty [0] })
def keepR (R : RM) : RM := { R with sure := R.way, dirty := List.replicate R.most false }
def abortR (R : RM) : RM := { R with way := R.sure, dirty := List.replicate R.most false }
/-! The page 0. -/
theorem rootsL_length : ∀ l : List Int, (rootsL l).length = 8 * l.length
  | [] => rfl
  | x :: l => by
    show (leB x 8 ++ rootsL l).length = _
    rw [List.length_append, leB_length, rootsL_length l, List.length_cons]; omega
theorem rootsL_get : ∀ {l : List Int} {i : Nat} {x : Int}, l[i]? = some x → ((rootsL l).drop (8 * i)).take 8 = leB x 8
  | [], i, x, h => by simp at h
  | y :: l, 0, x, h => by
    simp at h; subst h
    show ((leB y 8 ++ rootsL l).drop 0).take 8 = _
    rw [List.drop_zero, List.take_left' (leB_length _ _)]
  | y :: l, i + 1, x, h => by
    show ((leB y 8 ++ rootsL l).drop (8 * (i + 1))).take 8 = _
    rw [show 8 * (i + 1) = (leB y 8).length + 8 * i by rw [leB_length]; omega, ← List.drop_drop, List.drop_left' rfl]
    exact rootsL_get (by simpa using h)
theorem rootsL_set : ∀ (l : List Int) (i : Nat) (n : Int), i < l.length → rootsL (l.set i n) = (rootsL l).take (8 * i) ++ (leB n 8 ++ (rootsL l).drop (8 * i + 8))
  | [], i, n, h => by simp at h
  | y :: l, 0, n, h => by
    show leB n 8 ++ rootsL l = (leB y 8 ++ rootsL l).take 0 ++ (leB n 8 ++ (leB y 8 ++ rootsL l).drop 8)
    rw [List.take_zero, List.nil_append, List.drop_left' (leB_length _ _)]
  | y :: l, i + 1, n, h => by
    show leB y 8 ++ rootsL (l.set i n) = (leB y 8 ++ rootsL l).take (8 * (i + 1)) ++ (leB n 8 ++ (leB y 8 ++ rootsL l).drop (8 * (i + 1) + 8))
    rw [rootsL_set l i n (by simpa using h), show 8 * (i + 1) = (leB y 8).length + 8 * i by rw [leB_length]; omega, List.take_length_add_append, Nat.add_assoc, List.drop_length_add_append, List.append_assoc]
theorem headS_eq {s : SM} (h : s.roots.length = 8) : headS s = S (leB s.kinds.length 4 ++ (leB (firstF s) 4 ++ (rootsL s.roots ++ nul 424))) := by
  unfold headS fillR
  rw [data_S, S_size, List.length_append, List.length_append, leB_length, leB_length, rootsL_length, h, List.append_assoc, List.append_assoc]
theorem headS_size {s : SM} (h : s.roots.length = 8) : (headS s).size = 496 := by
  rw [headS_eq h, S_size, List.length_append, List.length_append, List.length_append, leB_length, leB_length, rootsL_length, h, nul_length]
theorem headS_used {s : SM} (h : s.roots.length = 8) (hn : s.kinds.length ≤ 4294967295) : usedR (headS s) = s.kinds.length := by
  unfold usedR
  rw [headS_eq h, cut_S, List.drop_zero, List.take_left' (leB_length _ _), leN_four _ (by omega) (by omega)]
theorem headS_free {s : SM} (h : s.roots.length = 8) (h0 : 0 ≤ firstF s) (h1 : firstF s ≤ 4294967295) : freeR (headS s) = firstF s := by
  unfold freeR
  rw [headS_eq h, cut_S, List.drop_left' (leB_length _ _), List.take_left' (leB_length _ _), leN_four _ h0 h1]
theorem headS_root {s : SM} (h : s.roots.length = 8) {i : Nat} {x : Int} (hi : s.roots[i]? = some x) (h0 : 0 ≤ x) (h1 : x ≤ 18446744073709551615) : leN (cut (headS s) (8 + 8 * i) 8) = x := by
  have hlt : i < 8 := by have := (List.getElem?_eq_some_iff.1 hi).1; omega
  rw [headS_eq h, ← List.append_assoc, cut_S, ← List.drop_drop, List.drop_left' (by rw [List.length_append, leB_length, leB_length]), List.drop_append_of_le_length (by rw [rootsL_length, h]; omega), List.take_append_of_le_length (by rw [List.length_drop, rootsL_length, h]; omega), rootsL_get hi, leN_leB8 _ h0 h1]
theorem headS_rest {s t : SM} (h : s.roots.length = 8) (e : t.roots = s.roots) : headR t.kinds.length (firstF t) (headS s) = headS t := by
  have ht : t.roots.length = 8 := by rw [e]; exact h
  unfold headR
  rw [headS_size h, headS_eq h, headS_eq ht, extract_cut, cut_S, data_S, ← List.append_assoc (leB s.kinds.length 4), List.drop_left' (by rw [List.length_append, leB_length, leB_length]), List.take_of_length_le (by rw [List.length_append, rootsL_length, h, nul_length]; omega), e]
theorem headS_rootR {s : SM} (h : s.roots.length = 8) {i : Nat} (hi : i < 8) (n : Int) : rootR (headS s) i n = headS { s with roots := s.roots.set i n } := by
  have ht : (s.roots.set i n).length = 8 := by rw [List.length_set]; exact h
  have hA : (leB (s.kinds.length : Int) 4 ++ leB (firstF s) 4).length = 8 := by rw [List.length_append, leB_length, leB_length]
  have hR := rootsL_length s.roots
  rw [h] at hR
  unfold rootR
  rw [headS_size h, headS_eq (s := { s with roots := s.roots.set i n }) ht, headS_eq h, extract_cut, extract_cut, data_S, data_S, cut_S, cut_S, List.drop_zero, Nat.sub_zero, rootsL_set _ _ _ (by omega)]
  show S _ = S (leB (s.kinds.length : Int) 4 ++ (leB (firstF s) 4 ++ _))
  rw [← List.append_assoc (leB (s.kinds.length : Int) 4), ← List.append_assoc (leB (s.kinds.length : Int) 4)]
  generalize leB (s.kinds.length : Int) 4 ++ leB (firstF s) 4 = A at hA ⊢
  generalize rootsL s.roots = L at hR ⊢
  congr 1
  rw [show 8 + 8 * i = A.length + 8 * i by omega, List.take_length_add_append, show A.length + 8 * i + 8 = A.length + (8 * i + 8) by omega, List.drop_length_add_append, List.take_append_of_le_length (by omega), List.drop_append_of_le_length (by omega)]
  have e : List.take (496 - (A.length + (8 * i + 8))) (List.drop (8 * i + 8) L ++ nul 424) = List.drop (8 * i + 8) L ++ nul 424 := List.take_of_length_le (by rw [List.length_append, List.length_drop, nul_length]; omega)
  rw [e]
  simp only [List.append_assoc]
end Go.Proofs.YtpaholkmlfaflaaGreatDoor

namespace Go.Proofs.YtpaholkmlfaflaaGreatDoor
open Go.RowKit
set_option linter.unusedVariables false
/-- What holds of all pages, the page 0's room aside. -/
structure PreOk (s : SM) (most : Nat) : Prop where
  lr : s.rooms.length = s.kinds.length
  one : 1 ≤ s.kinds.length
  le : s.kinds.length ≤ most
  r8 : s.roots.length = 8
  rb : ∀ x ∈ s.roots, 0 ≤ x ∧ x ≤ 18446744073709551615
  kind0 : s.kinds[0]? = some 1
  kinds : ∀ (i : Nat) k, s.kinds[i]? = some k → 1 ≤ k ∧ k ≤ 255
  rooms : ∀ (i : Nat) r, i ≠ 0 → s.rooms[i]? = some r → r.size = 496
  fr : ∀ f ∈ s.free, 1 ≤ f ∧ f < s.kinds.length ∧ s.kinds[f.toNat]? = some 255
  nd : s.free.Nodup
  link : ∀ (j : Nat) f, s.free[j]? = some f → s.rooms[f.toNat]? = some (fillR (S (leB (((s.free.take j).getLast?).getD 0) 4)) 496)
  conv : ∀ i : Nat, s.kinds[i]? = some 255 → (i : Int) ∈ s.free
structure StOk (s : SM) (most : Nat) : Prop extends PreOk s most where
  room0 : s.rooms[0]? = some (headS s)
theorem set_get {α : Type} {l : List α} {i j : Nat} {x y : α} (h : (l.set i x)[j]? = some y) : (j = i ∧ i < l.length ∧ y = x) ∨ (j ≠ i ∧ l[j]? = some y) := by
  rw [List.getElem?_set] at h
  split at h
  · rename_i e
    split at h
    · injection h with h; exact .inl ⟨e.symm, by assumption, h.symm⟩
    · cases h
  · rename_i e; exact .inr ⟨fun e' => e e'.symm, h⟩
theorem set_other {α : Type} {l : List α} {i j : Nat} {x : α} (h : j ≠ i) : (l.set i x)[j]? = l[j]? := by
  rw [List.getElem?_set, if_neg (fun e => h e.symm)]
theorem set_same {α : Type} {l : List α} {i : Nat} {x : α} (h : i < l.length) : (l.set i x)[i]? = some x := by
  rw [List.getElem?_set, if_pos rfl, if_pos h]
theorem PreOk.fix {s : SM} {most : Nat} (h : PreOk s most) : StOk (fixS s) most := by
  have hl := h.lr
  have h1 := h.one
  refine ⟨⟨?_, h.one, h.le, h.r8, h.rb, h.kind0, h.kinds, ?_, h.fr, h.nd, ?_, h.conv⟩, ?_⟩
  · show (s.rooms.set 0 _).length = _
    rw [List.length_set]; exact hl
  · intro i r hi hr
    have hr : (s.rooms.set 0 (headS s))[i]? = some r := hr
    rw [set_other hi] at hr
    exact h.rooms i r hi hr
  · intro j f hf
    have hfr := (h.fr f (List.mem_of_getElem? hf)).1
    show (s.rooms.set 0 (headS s))[f.toNat]? = _
    rw [set_other (by omega)]
    exact h.link j f hf
  · show (s.rooms.set 0 (headS s))[0]? = some (headS s)
    exact set_same (by omega)
theorem firstF_bd {s : SM} {most : Nat} (h : PreOk s most) : 0 ≤ firstF s ∧ firstF s < s.kinds.length := by
  unfold firstF
  cases e : s.free.getLast? with
  | none => have := h.one; show (0 : Int) ≤ 0 ∧ (0 : Int) < _; omega
  | some f =>
    have := h.fr f (List.mem_of_getLast? e)
    show 0 ≤ f ∧ f < _
    omega
theorem StOk.roomsz {s : SM} {most : Nat} (h : StOk s most) {i : Nat} {r : ByteArray} (hr : s.rooms[i]? = some r) : r.size = 496 := by
  by_cases e : i = 0
  · subst e
    rw [h.room0] at hr
    injection hr with hr
    subst hr
    exact headS_size h.r8
  · exact h.rooms i r e hr
/-! What a change leaves. -/
section
variable {s : SM} {most : Nat}
theorem StOk.write (h : StOk s most) {no : Nat} {kind : Int} {r : ByteArray} (n1 : 1 ≤ no) (n2 : no < s.kinds.length) (hf : s.kinds[no]? ≠ some 255) (k1 : 2 ≤ kind) (k2 : kind ≤ 254) (hr : r.size = 496) :
    StOk { s with kinds := s.kinds.set no kind, rooms := s.rooms.set no r } most := by
  have hh : headS { s with kinds := s.kinds.set no kind, rooms := s.rooms.set no r } = headS s := by
    unfold headS firstF
    simp only [List.length_set]
  have hnf : ∀ f ∈ s.free, f.toNat ≠ no := fun f hm e => hf (e ▸ (h.fr f hm).2.2)
  refine ⟨⟨?_, ?_, ?_, h.r8, h.rb, ?_, ?_, ?_, ?_, h.nd, ?_, ?_⟩, ?_⟩
  · simp only [List.length_set]; exact h.lr
  · simp only [List.length_set]; exact h.one
  · simp only [List.length_set]; exact h.le
  · show (s.kinds.set no kind)[0]? = _
    rw [set_other (by omega)]; exact h.kind0
  · intro i k hk
    rcases set_get hk with ⟨-, -, e⟩ | ⟨-, hk⟩
    · omega
    · exact h.kinds i k hk
  · intro i q hi hq
    rcases set_get hq with ⟨-, -, e⟩ | ⟨-, hq⟩
    · rw [e]; exact hr
    · exact h.rooms i q hi hq
  · intro f hm
    have := h.fr f hm
    simp only [List.length_set]
    refine ⟨this.1, this.2.1, ?_⟩
    rw [set_other (hnf f hm)]; exact this.2.2
  · intro j f hj
    show (s.rooms.set no r)[f.toNat]? = _
    rw [set_other (hnf f (List.mem_of_getElem? hj))]
    exact h.link j f hj
  · intro i hi
    rcases set_get hi with ⟨-, -, e⟩ | ⟨-, hi⟩
    · omega
    · exact h.conv i hi
  · rw [hh]
    show (s.rooms.set no r)[0]? = _
    rw [set_other (by omega)]; exact h.room0
theorem StOk.take (h : StOk s most) {f kind : Int} (hl : s.free.getLast? = some f) (k1 : 2 ≤ kind) (k2 : kind ≤ 254) : StOk (takeS s f kind) most := by
  obtain ⟨l, hfree⟩ := List.getLast?_eq_some_iff.1 hl
  have hd : s.free.dropLast = l := by rw [hfree]; simp
  have hfm : f ∈ s.free := by rw [hfree]; simp
  obtain ⟨f1, f2, f3⟩ := h.fr f hfm
  have hnd := h.nd
  rw [hfree, List.nodup_append] at hnd
  have hne : ∀ g ∈ l, g.toNat ≠ f.toNat := fun g hg e => by
    have h1 := (h.fr g (by rw [hfree]; simp [hg])).1
    exact hnd.2.2 g hg f (by simp) (by omega)
  refine PreOk.fix ⟨?_, ?_, ?_, h.r8, h.rb, ?_, ?_, ?_, ?_, ?_, ?_, ?_⟩
  · simp only [List.length_set]; exact h.lr
  · simp only [List.length_set]; exact h.one
  · simp only [List.length_set]; exact h.le
  · show (s.kinds.set f.toNat kind)[0]? = _
    rw [set_other (by omega)]; exact h.kind0
  · intro i k hk
    rcases set_get hk with ⟨-, -, e⟩ | ⟨-, hk⟩
    · omega
    · exact h.kinds i k hk
  · intro i q hi hq
    rcases set_get hq with ⟨-, -, e⟩ | ⟨-, hq⟩
    · rw [e]; exact fillR_size (by decide)
    · exact h.rooms i q hi hq
  · intro g hm
    have hm : g ∈ s.free.dropLast := hm
    rw [hd] at hm
    have := h.fr g (by rw [hfree]; simp [hm])
    simp only [List.length_set]
    refine ⟨this.1, this.2.1, ?_⟩
    rw [set_other (hne g hm)]; exact this.2.2
  · show s.free.dropLast.Nodup
    rw [hd]; exact hnd.1
  · intro j g hj
    have hj : s.free.dropLast[j]? = some g := hj
    show (s.rooms.set f.toNat _)[g.toNat]? = some (fillR (S (leB (((s.free.dropLast.take j).getLast?).getD 0) 4)) 496)
    rw [hd] at hj ⊢
    have hjl := (List.getElem?_eq_some_iff.1 hj).1
    rw [set_other (hne g (List.mem_of_getElem? hj))]
    have := h.link j g (by rw [hfree, List.getElem?_append_left hjl]; exact hj)
    rw [hfree, List.take_append_of_le_length (by omega)] at this
    exact this
  · intro i hi
    show (i : Int) ∈ s.free.dropLast
    rcases set_get hi with ⟨-, -, e⟩ | ⟨hn, hi⟩
    · omega
    · have := h.conv i hi
      rw [hfree] at this
      rw [hd]
      simp at this
      rcases this with h | h
      · exact h
      · omega
theorem StOk.grow (h : StOk s most) {kind : Int} (hm : s.kinds.length < most) (k1 : 2 ≤ kind) (k2 : kind ≤ 254) : StOk (growS s kind) most := by
  have h1 := h.one
  have hl := h.lr
  refine PreOk.fix ⟨?_, ?_, ?_, h.r8, h.rb, ?_, ?_, ?_, ?_, h.nd, ?_, ?_⟩
  · simp only [List.length_append, List.length_singleton]; omega
  · simp only [List.length_append, List.length_singleton]; omega
  · simp only [List.length_append, List.length_singleton]; omega
  · show (s.kinds ++ [kind])[0]? = _
    rw [List.getElem?_append_left (by omega)]; exact h.kind0
  · intro i k hk
    have hk : (s.kinds ++ [kind])[i]? = some k := hk
    rw [List.getElem?_append] at hk
    split at hk
    · exact h.kinds i k hk
    · have := List.mem_of_getElem? hk
      simp at this
      omega
  · intro i q hi hq
    have hq : (s.rooms ++ [fillR ⟨#[]⟩ 496])[i]? = some q := hq
    rw [List.getElem?_append] at hq
    split at hq
    · exact h.rooms i q hi hq
    · have := List.mem_of_getElem? hq
      simp at this
      rw [this]; exact fillR_size (by decide)
  · intro f hf
    have := h.fr f hf
    simp only [List.length_append, List.length_singleton]
    refine ⟨this.1, by omega, ?_⟩
    rw [List.getElem?_append_left (by omega)]; exact this.2.2
  · intro j f hf
    have := h.fr f (List.mem_of_getElem? hf)
    show (s.rooms ++ [_])[f.toNat]? = _
    rw [List.getElem?_append_left (by omega)]
    exact h.link j f hf
  · intro i hi
    have hi : (s.kinds ++ [kind])[i]? = some 255 := hi
    rw [List.getElem?_append] at hi
    split at hi
    · exact h.conv i hi
    · have := List.mem_of_getElem? hi
      simp at this
      omega
theorem StOk.back (h : StOk s most) {no : Nat} (n1 : 1 ≤ no) (n2 : no < s.kinds.length) (hf : s.kinds[no]? ≠ some 255) : StOk (backS s no) most := by
  have hnf : ∀ f ∈ s.free, f.toNat ≠ no := fun f hm e => hf (e ▸ (h.fr f hm).2.2)
  have hl := h.lr
  have hb := firstF_bd h.toPreOk
  refine PreOk.fix ⟨?_, ?_, ?_, h.r8, h.rb, ?_, ?_, ?_, ?_, ?_, ?_, ?_⟩
  · simp only [List.length_set]; exact h.lr
  · simp only [List.length_set]; exact h.one
  · simp only [List.length_set]; exact h.le
  · show (s.kinds.set no 255)[0]? = _
    rw [set_other (by omega)]; exact h.kind0
  · intro i k hk
    rcases set_get hk with ⟨-, -, e⟩ | ⟨-, hk⟩
    · omega
    · exact h.kinds i k hk
  · intro i q hi hq
    rcases set_get hq with ⟨-, -, e⟩ | ⟨-, hq⟩
    · rw [e]; exact fillR_size (by rw [S_size, leB_length]; omega)
    · exact h.rooms i q hi hq
  · intro f hm
    have hm : f ∈ s.free ++ [(no : Int)] := hm
    rw [List.mem_append] at hm
    simp only [List.length_set]
    rcases hm with hm | hm
    · have := h.fr f hm
      refine ⟨this.1, this.2.1, ?_⟩
      show (s.kinds.set no 255)[f.toNat]? = _
      rw [set_other (hnf f hm)]; exact this.2.2
    · simp at hm
      subst hm
      refine ⟨by omega, by omega, ?_⟩
      show (s.kinds.set no 255)[no]? = _
      exact set_same n2
  · show (s.free ++ [(no : Int)]).Nodup
    rw [List.nodup_append]
    refine ⟨h.nd, by simp, fun a ha b hb e => ?_⟩
    simp at hb
    exact hnf a ha (by omega)
  · intro j f hj
    have hj : (s.free ++ [(no : Int)])[j]? = some f := hj
    show (s.rooms.set no (fillR (S (leB (firstF s) 4)) 496))[f.toNat]? = some (fillR (S (leB ((((s.free ++ [(no : Int)]).take j).getLast?).getD 0) 4)) 496)
    rw [List.getElem?_append] at hj
    split at hj
    · rename_i hlt
      rw [set_other (hnf f (List.mem_of_getElem? hj)), List.take_append_of_le_length (by omega)]
      exact h.link j f hj
    · rename_i hge
      have hj1 := (List.getElem?_eq_some_iff.1 hj).1
      have hf' := List.mem_of_getElem? hj
      simp at hf' hj1
      have e : j = s.free.length := by omega
      subst e hf'
      rw [List.take_left' rfl]
      show (s.rooms.set no _)[no]? = _
      exact set_same (by omega)
  · intro i hi
    show (i : Int) ∈ s.free ++ [(no : Int)]
    rcases set_get hi with ⟨e, -, -⟩ | ⟨-, hi⟩
    · simp [e]
    · simp [h.conv i hi]
theorem StOk.root (h : StOk s most) {i : Nat} {n : Int} (hi : i < 8) (n0 : 0 ≤ n) (n1 : n ≤ 18446744073709551615) : StOk (rootS s i n) most := by
  refine PreOk.fix ⟨h.lr, h.one, h.le, ?_, ?_, h.kind0, h.kinds, h.rooms, h.fr, h.nd, h.link, h.conv⟩
  · show (s.roots.set i n).length = 8
    rw [List.length_set]; exact h.r8
  · intro x hx
    rcases List.mem_or_eq_of_mem_set hx with hx | hx
    · exact h.rb x hx
    · subst hx; exact ⟨n0, n1⟩
end
theorem newS_pre (most : Nat) (h : 1 ≤ most) : PreOk ⟨[1], [⟨#[]⟩], [], List.replicate 8 0⟩ most := by
  refine ⟨rfl, Nat.le_refl _, h, rfl, fun x hx => ?_, rfl, fun i k hk => ?_, fun i r hi hr => ?_, fun f hf => (by cases hf), List.nodup_nil, fun j f hf => (by simp at hf), fun i hi => ?_⟩
  · have := List.eq_of_mem_replicate hx; omega
  · have := List.mem_of_getElem? hk; simp at this; omega
  · have := (List.getElem?_eq_some_iff.1 hr).1; simp at this; omega
  · have := List.mem_of_getElem? hi; simp at this
theorem newS_ok (most : Nat) (h : 1 ≤ most) : StOk newS most := (newS_pre most h).fix
end Go.Proofs.YtpaholkmlfaflaaGreatDoor

namespace Go.Proofs.YtpaholkmlfaflaaGreatDoor
open Go.RowKit
set_option linter.unusedVariables false
def PgM (V : Int → ByteArray) (s : SM) : Prop := ∀ (i : Nat) k r, s.kinds[i]? = some k → s.rooms[i]? = some r → V i = pgStr k i r
def isD (d : List Bool) (i : Int) : Bool := decide (0 ≤ i) && d.getD i.toNat false
structure Rel (M : PM) (R : RM) (N : Nat) (G : Int) : Prop where
  log : ∃ first ts, LogIs M N G first ts
  most : M.most = R.most
  room : M.room = R.room
  big : R.most ≤ 65536
  way : StOk R.way R.most
  sure : StOk R.sure R.most
  vw : PgM (viewP M) R.way
  vs : PgM (baseP M) R.sure
  dl : R.dirty.length = R.most
  dirty : ∀ i : Int, (M.dirty i).isSome = isD R.dirty i
  dway : ∀ i : Nat, isD R.dirty i = true → i < R.way.kinds.length
  cnt : cntR R ≤ R.room
theorem pgStr_fill {k no : Int} {r : ByteArray} (h : r.size ≤ 496) : pgStr k no (fillR r 496) = pgStr k no r := by
  have : pgBody k no (fillR r 496) = pgBody k no r := by
    unfold pgBody
    rw [fillR_size h]
    unfold fillR
    rw [data_S]
    show S (_ ++ _ ++ _ ++ _ ++ []) = _
    rw [List.append_nil]
    simp only [List.append_assoc]
  unfold pgStr
  rw [this]
theorem cntI_list (d : List Bool) : ∀ N, cntI (isD d) N = ((d.take N).filter id).length
  | 0 => by simp [cntI]
  | N + 1 => by
    rw [cntI_succ, cntI_list d N, List.take_add_one, List.filter_append, List.length_append]
    congr 1
    unfold isD
    rw [List.getD_eq_getElem?_getD, Int.toNat_natCast]
    cases d[N]? with
    | none => simp
    | some b => cases b <;> simp
theorem cnt_set : ∀ (d : List Bool) (n : Nat), n < d.length → ((d.set n true).filter id).length = (d.filter id).length + (if d.getD n false = true then 0 else 1)
  | [], n, h => by simp at h
  | b :: d, 0, h => by cases b <;> simp
  | b :: d, n + 1, h => by
    have := cnt_set d n (by simpa using h)
    rw [List.set_cons_succ, List.filter_cons, List.filter_cons]
    simp only [List.getD_cons_succ]
    split
    · simp only [List.length_cons, this]; omega
    · exact this
theorem isD_set {d : List Bool} {n : Nat} (h : n < d.length) (i : Int) : isD (d.set n true) i = if i = n then true else isD d i := by
  unfold isD
  by_cases e : i = n
  · subst e
    rw [if_pos rfl, List.getD_eq_getElem?_getD, Int.toNat_natCast, set_same h]
    simp
  · rw [if_neg e]
    by_cases e0 : 0 ≤ i
    · rw [List.getD_eq_getElem?_getD, List.getD_eq_getElem?_getD, set_other (by omega)]
    · simp [e0]
theorem viewP_upd (M : PM) (D : Int → Option ByteArray) (no i : Int) (P : ByteArray) : viewP { M with dirty := updI D no (some P) } i = if i = no then P else viewP { M with dirty := D } i := by
  unfold viewP
  show ((updI D no (some P)) i).getD (baseP M i) = _
  by_cases e : i = no
  · rw [e, updI_same, if_pos rfl]; rfl
  · rw [updI_other _ _ e, if_neg e]; rfl
section
variable {M : PM} {R : RM} {N k : Nat} {G : Int}
theorem LogIs.dirty' {first : Int} {ts : List TxD} (h : LogIs M N G first ts) (D : Int → Option ByteArray) : LogIs { M with dirty := D } N G first ts :=
  ⟨h.up, h.wait, h.geo, h.most1, h.frm, h.lsize, h.dead, h.ldead, h.chain, h.lat, h.calm, h.hot, h.first0, h.first1, h.next0, h.next1, h.mark, h.other, h.gen1, h.gen2, h.small⟩
theorem Rel.up (h : Rel M R N G) : UpM M.m N := h.log.elim fun _ h => h.elim fun _ h => h.up
theorem Rel.cntDR (h : Rel M R N G) : cntD M = cntR R := by
  unfold cntD cntR
  rw [cntI_congr (q := isD R.dirty) 100000 (fun i _ => h.dirty i), cntI_list, List.take_of_length_le (by rw [h.dl]; have := h.big; omega)]
theorem Rel.arg (h : Rel M R N G) {i : Nat} {kd : Int} (hk : R.way.kinds[i]? = some kd) : pgArg kd i = true := by
  have h1 := h.way.kinds i kd hk
  have h2 := (List.getElem?_eq_some_iff.1 hk).1
  have h3 := h.way.le
  have h4 := h.big
  unfold pgArg
  rw [decide_eq_true_iff]
  omega
theorem Rel.rd (h : Rel M R N G) {i : Nat} {kd : Int} {r : ByteArray} (hk : R.way.kinds[i]? = some kd) (hr : R.way.rooms[i]? = some r) : rdP M i = (kd, r, 0) := by
  have hs := h.way.roomsz hr
  obtain ⟨u1, u2, u3⟩ := un_pg kd i r (h.arg hk) (by omega)
  rw [rdP_up h.up.down, h.vw i kd r hk hr, u1, u2, u3, fillR_full hs]
theorem Rel.rd0 (h : Rel M R N G) : rdP M 0 = (1, headS R.way, 0) := h.rd (i := 0) h.way.kind0 h.way.room0
theorem Rel.used (h : Rel M R N G) : usedR (headS R.way) = lenR R := headS_used h.way.r8 (by have := h.way.le; have := h.big; omega)
theorem Rel.fre (h : Rel M R N G) : freeR (headS R.way) = firstF R.way := by
  have hb := firstF_bd h.way.toPreOk
  have := h.way.le
  have := h.big
  exact headS_free h.way.r8 hb.1 (by omega)
theorem headS_text {s : SM} (h : s.roots.length = 8) : headS s = fillR ((headS s).extract 0 72) 496 := by
  have e : (headS s).extract 0 72 = S (leB s.kinds.length 4 ++ (leB (firstF s) 4 ++ rootsL s.roots)) := by
    rw [headS_eq h, extract_cut, cut_S, List.drop_zero, Nat.sub_zero, ← List.append_assoc, ← List.append_assoc, List.take_left' (by rw [List.length_append, List.length_append, leB_length, leB_length, rootsL_length, h]), List.append_assoc]
  rw [e]
  rfl
theorem Rel.snd (h : Rel M R N G) : soundP M = 0 := by
  unfold soundP soundR
  have h1 := h.way.one
  have h2 := h.way.le
  have h3 := firstF_bd h.way.toPreOk
  have h4 := h.used
  have h5 := h.fre
  have h6 := h.most
  rw [h.rd0]
  simp only
  rw [if_neg (by decide), if_neg (by rintro (e | e | e); exact e rfl; exact e rfl; exact e (headS_text h.way.r8)), h4, h5, if_neg (by unfold lenR; omega)]
theorem Rel.pages (h : Rel M R N G) : pagesP M = lenR R := by
  unfold pagesP
  rw [h.rd0, if_pos rfl, h.used]
theorem bigR_one (no : Nat) : bigR R [(no : Int)] = decide (R.room < cntR R + (if R.dirty.getD no false = true then 0 else 1)) := by
  unfold bigR
  rw [List.filter_cons, Int.toNat_natCast]
  cases R.dirty.getD no false <;> simp
theorem bigR_two (no : Nat) : bigR R [(no : Int), 0] = decide (R.room < cntR R + ((if R.dirty.getD no false = true then 0 else 1) + (if R.dirty.getD 0 false = true then 0 else 1))) := by
  unfold bigR
  rw [List.filter_cons, List.filter_cons, Int.toNat_natCast, show (0 : Int).toNat = 0 from rfl]
  cases R.dirty.getD no false <;> cases R.dirty.getD 0 false <;> simp
theorem isD_nat (d : List Bool) (n : Nat) : isD d n = d.getD n false := by unfold isD; simp
/-- One page has become another one. -/
theorem Rel.one (h : Rel M R N G) {no : Nat} {kd : Int} {room : ByteArray} {way' : SM} (hok : StOk way' R.most) (hk : way'.kinds[no]? = some kd) (hr : way'.rooms[no]? = some (fillR room 496)) (hrs : room.size ≤ 496)
    (hoth : ∀ (i : Nat) k r, i ≠ no → way'.kinds[i]? = some k → way'.rooms[i]? = some r → R.way.kinds[i]? = some k ∧ R.way.rooms[i]? = some r) (hlen : R.way.kinds.length ≤ way'.kinds.length) (hbig : bigR R [(no : Int)] = false) :
    Rel { M with dirty := updI M.dirty no (some (pgStr kd no room)) } { R with way := way', dirty := markR R.dirty [(no : Int)] } N G := by
  have hnl := (List.getElem?_eq_some_iff.1 hk).1
  have hnd : no < R.dirty.length := by rw [h.dl]; have := hok.le; omega
  have hmk : markR R.dirty [(no : Int)] = R.dirty.set no true := rfl
  rw [hmk]
  obtain ⟨first, ts, hl⟩ := h.log
  refine ⟨⟨first, ts, hl.dirty' _⟩, h.most, h.room, h.big, hok, h.sure, fun i k r hi hr' => ?_, h.vs, by show (R.dirty.set no true).length = _; rw [List.length_set]; exact h.dl, fun i => ?_, fun i hi => ?_, ?_⟩
  · rw [viewP_upd]
    by_cases e : i = no
    · subst e
      have hi : way'.kinds[i]? = some k := hi
      have hr' : way'.rooms[i]? = some r := hr'
      rw [if_pos rfl]
      rw [hk] at hi
      rw [hr] at hr'
      injection hi with hi
      injection hr' with hr'
      subst hi hr'
      rw [pgStr_fill hrs]
    · rw [if_neg (by omega)]
      obtain ⟨a, b⟩ := hoth i k r e hi hr'
      exact h.vw i k r a b
  · show (updI M.dirty (no : Int) _ i).isSome = isD (R.dirty.set no true) i
    rw [isD_set hnd]
    by_cases e : i = no
    · rw [e, updI_same, if_pos rfl]; rfl
    · rw [updI_other _ _ e, if_neg e]; exact h.dirty i
  · have hi : isD (R.dirty.set no true) i = true := hi
    rw [isD_set hnd] at hi
    show i < way'.kinds.length
    by_cases e : (i : Int) = no
    · omega
    · rw [if_neg e] at hi
      have := h.dway i hi
      omega
  · show ((R.dirty.set no true).filter id).length ≤ R.room
    rw [cnt_set _ _ hnd]
    rw [bigR_one] at hbig
    simp only [decide_eq_false_iff_not] at hbig
    unfold cntR at hbig
    omega
/-- One page has become another one, and so the page 0. -/
theorem Rel.two (h : Rel M R N G) {no : Nat} {kd : Int} {room : ByteArray} {way' : SM} (hno : no ≠ 0) (hok : StOk way' R.most) (hk : way'.kinds[no]? = some kd) (hr : way'.rooms[no]? = some (fillR room 496)) (hrs : room.size ≤ 496)
    (hoth : ∀ (i : Nat) k r, i ≠ no → i ≠ 0 → way'.kinds[i]? = some k → way'.rooms[i]? = some r → R.way.kinds[i]? = some k ∧ R.way.rooms[i]? = some r) (hlen : R.way.kinds.length ≤ way'.kinds.length) (hbig : bigR R [(no : Int), 0] = false) :
    Rel { M with dirty := updI (updI M.dirty no (some (pgStr kd no room))) 0 (some (pgStr 1 0 (headS way'))) } { R with way := way', dirty := markR R.dirty [(no : Int), 0] } N G := by
  have hnl := (List.getElem?_eq_some_iff.1 hk).1
  have hnd : no < R.dirty.length := by rw [h.dl]; have := hok.le; omega
  have hzd : 0 < (R.dirty.set no true).length := by rw [List.length_set]; omega
  have hmk : markR R.dirty [(no : Int), 0] = (R.dirty.set no true).set 0 true := rfl
  rw [hmk]
  obtain ⟨first, ts, hl⟩ := h.log
  refine ⟨⟨first, ts, hl.dirty' _⟩, h.most, h.room, h.big, hok, h.sure, fun i k r hi hr' => ?_, h.vs, by show ((R.dirty.set no true).set 0 true).length = _; rw [List.length_set, List.length_set]; exact h.dl, fun i => ?_, fun i hi => ?_, ?_⟩
  · have hi : way'.kinds[i]? = some k := hi
    have hr' : way'.rooms[i]? = some r := hr'
    rw [viewP_upd]
    by_cases e0 : i = 0
    · subst e0
      rw [if_pos (by rfl)]
      rw [hok.kind0] at hi
      rw [hok.room0] at hr'
      injection hi with hi
      injection hr' with hr'
      subst hi hr'
      rfl
    · rw [if_neg (by omega), viewP_upd]
      by_cases e : i = no
      · subst e
        rw [if_pos rfl]
        rw [hk] at hi
        rw [hr] at hr'
        injection hi with hi
        injection hr' with hr'
        subst hi hr'
        rw [pgStr_fill hrs]
      · rw [if_neg (by omega)]
        obtain ⟨a, b⟩ := hoth i k r e e0 hi hr'
        exact h.vw i k r a b
  · show (updI (updI M.dirty (no : Int) _) 0 _ i).isSome = isD ((R.dirty.set no true).set 0 true) i
    rw [isD_set hzd, isD_set hnd]
    by_cases e0 : i = 0
    · rw [e0, updI_same, if_pos (by rfl)]; rfl
    · rw [updI_other _ _ e0, if_neg (by omega)]
      by_cases e : i = no
      · rw [e, updI_same, if_pos rfl]; rfl
      · rw [updI_other _ _ e, if_neg e]; exact h.dirty i
  · have hi : isD ((R.dirty.set no true).set 0 true) i = true := hi
    rw [isD_set hzd, isD_set hnd] at hi
    show i < way'.kinds.length
    by_cases e0 : i = 0
    · omega
    · rw [if_neg (by omega)] at hi
      by_cases e : (i : Int) = no
      · omega
      · rw [if_neg e] at hi
        have := h.dway i hi
        omega
  · show (((R.dirty.set no true).set 0 true).filter id).length ≤ R.room
    rw [cnt_set _ _ hzd, cnt_set _ _ hnd, List.getD_eq_getElem?_getD (i := 0), set_other (fun e => hno e.symm), ← List.getD_eq_getElem?_getD]
    rw [bigR_two] at hbig
    simp only [decide_eq_false_iff_not] at hbig
    unfold cntR at hbig
    omega
/-- Nothing is dirty. -/
theorem isD_none (n : Nat) (i : Int) : isD (List.replicate n false) i = false := by
  unfold isD
  rw [List.getD_eq_getElem?_getD, List.getElem?_replicate]
  split <;> simp
theorem cnt_none (n : Nat) : ((List.replicate n false).filter id).length = 0 := by simp
theorem Rel.abort (h : Rel M R N G) : Rel (abortP M) (abortR R) N G := by
  obtain ⟨first, ts, hl⟩ := h.log
  refine ⟨⟨first, ts, hl.dirty' _⟩, h.most, h.room, h.big, h.sure, h.sure, h.vs, h.vs, by show (List.replicate R.most false).length = _; simp [abortR], fun i => ?_, fun i hi => ?_, ?_⟩
  · show false = isD (List.replicate R.most false) i
    rw [isD_none]
  · have hi : isD (List.replicate R.most false) i = true := hi
    rw [isD_none] at hi; cases hi
  · show ((List.replicate R.most false).filter id).length ≤ _
    rw [cnt_none]; exact Nat.zero_le _
end
end Go.Proofs.YtpaholkmlfaflaaGreatDoor

namespace Go.Proofs.YtpaholkmlfaflaaGreatDoor
open Go.RowKit
set_option linter.unusedVariables false
section
variable {M : PM} {R : RM} {N k : Nat} {G : Int}
theorem oursK_yes {kind : Int} (h1 : 2 ≤ kind) (h2 : kind ≤ 254) : oursK kind = true := by unfold oursK; rw [decide_eq_true_iff]; exact ⟨h1, h2⟩
theorem oursK_no {kind : Int} (h : kind < 2 ∨ 254 < kind) : oursK kind = false := by unfold oursK; rw [decide_eq_false_iff_not]; omega
theorem arg_yes {kd : Int} {i : Nat} (h1 : 1 ≤ kd) (h2 : kd ≤ 255) (h3 : i ≤ 65536) : pgArg kd i = true := by unfold pgArg; rw [decide_eq_true_iff]; omega
theorem arg_zero : pgArg 1 0 = true := by decide
/-- Is there room for one more dirty page? -/
theorem Rel.fits (h : Rel M R N G) (no : Nat) : ((M.dirty no).isSome = true ∨ cntD M < M.room) ↔ bigR R [(no : Int)] = false := by
  rw [bigR_one, h.dirty, isD_nat, h.cntDR, h.room]
  have := h.cnt
  simp only [decide_eq_false_iff_not]
  cases R.dirty.getD no false <;> simp <;> omega
/-- Writing a page. -/
theorem Rel.write (h : Rel M R N G) (no : Nat) (kind : Int) (room : ByteArray) (hf : R.way.kinds[no]? ≠ some 255) : (writeP M no kind room).1 = (writeR R no kind room).1 ∧ Rel (writeP M no kind room).2 (writeR R no kind room).2 N G := by
  have hb := h.big
  have hle := h.way.le
  unfold writeP writeR
  by_cases hin : (no : Int) < 1 ∨ lenR R ≤ no ∨ kind < 2 ∨ 254 < kind
  · rw [if_pos hin, if_neg]
    · exact ⟨rfl, h⟩
    · unfold withinP oursK
      rw [h.pages, decide_eq_true_iff, decide_eq_true_iff]
      omega
  rw [if_neg hin, if_pos (by unfold withinP oursK; rw [h.pages, decide_eq_true_iff, decide_eq_true_iff]; omega)]
  unfold lenR at hin
  have ha := arg_yes (kd := kind) (i := no) (by omega) (by omega) (by omega)
  by_cases hr : 496 < room.size
  · rw [if_pos hr, setP_large _ _ _ ha hr]
    exact ⟨rfl, h⟩
  rw [if_neg hr]
  cases hbig : bigR R [(no : Int)]
  · rw [if_neg (by decide), setP_yes _ _ _ ha hr ((h.fits no).2 hbig)]
    refine ⟨rfl, ?_⟩
    rw [Int.toNat_natCast]
    exact h.one (h.way.write (by omega) (by omega) hf (by omega) (by omega) (fillR_size (by omega))) (set_same (by omega)) (set_same (by rw [h.way.lr]; omega)) (by omega) (fun i k r e hk hr => by
      have hk : (R.way.kinds.set no kind)[i]? = some k := hk
      have hr : (R.way.rooms.set no (fillR room 496))[i]? = some r := hr
      rw [set_other e] at hk hr
      exact ⟨hk, hr⟩) (by show _ ≤ (R.way.kinds.set no kind).length; rw [List.length_set]; exact Nat.le_refl _) hbig
  · rw [if_pos rfl, setP_big _ _ _ ha hr (fun hh => by have := (h.fits no).1 hh; rw [hbig] at this; cases this)]
    exact ⟨rfl, h⟩
/-- Two pages, one behind the other: the second one is the page 0. -/
theorem Rel.sets (h : Rel M R N G) {no : Nat} (hno : no ≠ 0) {kd : Int} {room : ByteArray} {way' : SM} {u f : Int} (hu : u = way'.kinds.length) (hf : f = firstF way') (hrt : way'.roots = R.way.roots) (hok : StOk way' R.most) (hk : way'.kinds[no]? = some kd) (hr : way'.rooms[no]? = some (fillR room 496)) (hrs : room.size ≤ 496)
    (hoth : ∀ (i : Nat) k r, i ≠ no → i ≠ 0 → way'.kinds[i]? = some k → way'.rooms[i]? = some r → R.way.kinds[i]? = some k ∧ R.way.rooms[i]? = some r) (hlen : R.way.kinds.length ≤ way'.kinds.length) :
    (bigR R [(no : Int), 0] = false → setP M no kd room = (0, { M with dirty := updI M.dirty no (some (pgStr kd no room)) }) ∧ ∃ M2, setHeadP { M with dirty := updI M.dirty no (some (pgStr kd no room)) } u f (headS R.way) = (0, M2) ∧ Rel M2 { R with way := way', dirty := markR R.dirty [(no : Int), 0] } N G) ∧
    (bigR R [(no : Int), 0] = true → setP M no kd room = (10, M) ∨ ∃ D, setP M no kd room = (0, { M with dirty := D }) ∧ setHeadP { M with dirty := D } u f (headS R.way) = (10, { M with dirty := D })) := by
  have hnl := (List.getElem?_eq_some_iff.1 hk).1
  have hkk := hok.kinds no kd hk
  have hle := hok.le
  have hb := h.big
  have ha := arg_yes (kd := kd) (i := no) hkk.1 hkk.2 (by omega)
  have hhead : headR u f (headS R.way) = headS way' := by rw [hu, hf]; exact headS_rest h.way.r8 hrt
  have hhs := headS_size hok.r8
  have hcn := h.cnt
  have hfd := h.dirty no
  have hfz := h.dirty 0
  rw [isD_nat] at hfd
  have hfz : (M.dirty 0).isSome = R.dirty.getD 0 false := by rw [hfz]; exact isD_nat _ 0
  have hcnt := h.cntDR
  have hroom := h.room
  have hcs : cntD { M with dirty := updI M.dirty no (some (pgStr kd no room)) } + (if (M.dirty no).isSome = true then 1 else 0) = cntD M + 1 := by
    have := cntI_set (p := fun i => (updI M.dirty (no : Int) (some (pgStr kd no room)) i).isSome) (q := fun i => (M.dirty i).isSome) (x := no) (fun i hi => by rw [updI_other _ _ hi]) 100000 (by omega)
    rw [updI_same] at this
    exact this
  generalize hC : cntD { M with dirty := updI M.dirty no (some (pgStr kd no room)) } = C at hcs
  have hz0 : ∀ D : ByteArray, (updI M.dirty (no : Int) (some D) 0).isSome = (M.dirty 0).isSome := fun D => by rw [updI_other _ _ (by omega)]
  rw [bigR_two]
  constructor
  · intro hbig
    have hbig' := hbig
    simp only [decide_eq_false_iff_not] at hbig'
    have hfit : (M.dirty no).isSome = true ∨ cntD M < M.room := by
      rw [hfd, hcnt, hroom]
      cases hd : R.dirty.getD no false
      · rw [hd] at hbig'; right; simp at hbig'; omega
      · left; rfl
    refine ⟨setP_yes _ _ _ ha (by omega) hfit, { M with dirty := updI (updI M.dirty no (some (pgStr kd no room))) 0 (some (pgStr 1 0 (headS way'))) }, ?_, ?_⟩
    · unfold setHeadP
      rw [hhead]
      refine setP_yes (M := { M with dirty := updI M.dirty no (some (pgStr kd no room)) }) _ _ _ arg_zero (by omega) ?_
      show (updI M.dirty (no : Int) _ 0).isSome = true ∨ cntD { M with dirty := updI M.dirty no (some (pgStr kd no room)) } < M.room
      rw [hC, hz0, hfz, hroom]
      cases hd : R.dirty.getD 0 false
      · right
        rw [hd] at hbig'
        rw [hfd] at hcs
        cases hd2 : R.dirty.getD no false
        · rw [hd2] at hbig' hcs
          simp at hbig' hcs
          omega
        · rw [hd2] at hbig' hcs
          simp at hbig' hcs
          omega
      · left; rfl
    · exact h.two hno hok hk hr hrs hoth hlen (by rw [bigR_two]; exact hbig)
  · intro hbig
    simp only [decide_eq_true_iff] at hbig
    by_cases hfit : (M.dirty no).isSome = true ∨ cntD M < M.room
    · right
      refine ⟨_, setP_yes _ _ _ ha (by omega) hfit, ?_⟩
      unfold setHeadP
      rw [hhead]
      refine setP_big (M := { M with dirty := updI M.dirty no (some (pgStr kd no room)) }) _ _ _ arg_zero (by omega) ?_
      show ¬ ((updI M.dirty (no : Int) _ 0).isSome = true ∨ cntD { M with dirty := updI M.dirty no (some (pgStr kd no room)) } < M.room)
      rw [hC, hz0, hfz, hroom]
      rw [hfd] at hcs
      cases hd : R.dirty.getD 0 false
      · rw [hd] at hbig
        cases hd2 : R.dirty.getD no false
        · rw [hd2] at hbig hcs
          simp at hbig hcs ⊢
          omega
        · rw [hd2] at hbig hcs
          simp at hbig hcs ⊢
          omega
      · rw [hd] at hbig
        rw [hfd, hcnt, hroom] at hfit
        cases hd2 : R.dirty.getD no false
        · rw [hd2] at hbig hfit
          simp at hbig hfit
          omega
        · rw [hd2] at hbig
          simp at hbig
          omega
    · left
      exact setP_big _ _ _ ha (by omega) hfit
end
end Go.Proofs.YtpaholkmlfaflaaGreatDoor

namespace Go.Proofs.YtpaholkmlfaflaaGreatDoor
open Go.RowKit
set_option linter.unusedVariables false
theorem fill4_text (x : Int) : (fillR (S (leB x 4)) 496).extract 0 4 = S (leB x 4) := by
  unfold fillR
  rw [data_S, extract_cut, cut_S, List.drop_zero, List.take_left' (leB_length _ _)]
theorem fill4_num {x : Int} (h0 : 0 ≤ x) (h1 : x ≤ 4294967295) : leN (cut (fillR (S (leB x 4)) 496) 0 4) = x := by
  unfold fillR
  rw [data_S, cut_S, List.drop_zero, List.take_left' (leB_length _ _), leN_four _ h0 h1]
section
variable {M : PM} {R : RM} {N k : Nat} {G : Int}
theorem fixS_rooms (s : SM) {i : Nat} (h : i ≠ 0) : (fixS s).rooms[i]? = s.rooms[i]? := set_other h
/-- What an Alloc comes to. -/
def AllocOk (x : Int × Int × PM) (y : Int × Int × RM) (N : Nat) (G : Int) : Prop :=
  x.1 = y.1 ∧ x.2.1 = y.2.1 ∧ (y.2.1 ≠ 10 → Rel x.2.2 y.2.2 N G) ∧ (y.2.1 = 10 → Rel (abortP x.2.2) (abortR y.2.2) N G)
theorem Rel.alloc1 (h : Rel M R N G) {no : Nat} (hno : no ≠ 0) {kind : Int} (k1 : 2 ≤ kind) (k2 : kind ≤ 254) {way' : SM} {u f : Int} (hp : pickP M = ((no : Int), u, f, 0)) (hu : u = way'.kinds.length) (hf : f = firstF way') (hrt : way'.roots = R.way.roots) (hok : StOk way' R.most) (hk : way'.kinds[no]? = some kind) (hr : way'.rooms[no]? = some (fillR ⟨#[]⟩ 496))
    (hoth : ∀ (i : Nat) k r, i ≠ no → i ≠ 0 → way'.kinds[i]? = some k → way'.rooms[i]? = some r → R.way.kinds[i]? = some k ∧ R.way.rooms[i]? = some r) (hlen : R.way.kinds.length ≤ way'.kinds.length) :
    AllocOk (allocP M kind) (if bigR R [(no : Int), 0] = true then (0, 10, R) else (no, 0, { R with way := way', dirty := markR R.dirty [(no : Int), 0] })) N G := by
  have ho := oursK_yes k1 k2
  obtain ⟨s1, s2⟩ := h.sets hno hu hf hrt hok hk hr (by decide) hoth hlen
  have h0 : (rdP M 0).2.1 = headS R.way := by rw [h.rd0]
  cases hbig : bigR R [(no : Int), 0]
  · obtain ⟨e1, M2, e2, e3⟩ := s1 hbig
    rw [if_neg (by decide), alloc_head (t := (0, M2)) ho hp e1 rfl (by rw [h0]; exact e2), if_neg (by simp)]
    exact ⟨rfl, rfl, fun _ => e3, fun e => by cases e⟩
  · rw [if_pos rfl]
    rcases s2 hbig with e | ⟨D, e1, e2⟩
    · rw [alloc_set ho hp e (by simp)]
      exact ⟨rfl, rfl, fun e => absurd rfl e, fun _ => h.abort⟩
    · rw [alloc_head (t := (10, { M with dirty := D })) ho hp e1 rfl (by rw [h0]; exact e2), if_pos (by simp)]
      exact ⟨rfl, rfl, fun e => absurd rfl e, fun _ => h.abort⟩
theorem Rel.alloc (h : Rel M R N G) (kind : Int) : AllocOk (allocP M kind) (allocR R kind) N G := by
  have hle := h.way.le
  have hb := h.big
  have hone := h.way.one
  unfold allocR
  by_cases hk : kind < 2 ∨ 254 < kind
  · rw [if_pos hk, alloc_not (oursK_no hk)]
    exact ⟨rfl, rfl, fun _ => h, fun e => by cases e⟩
  rw [if_neg hk]
  have hr0 := h.rd0
  have hus := h.used
  have hfr := h.fre
  cases hl : R.way.free.getLast? with
  | some f =>
    simp only
    obtain ⟨l, hfree⟩ := List.getLast?_eq_some_iff.1 hl
    have hd : R.way.free.dropLast = l := by rw [hfree]; simp
    obtain ⟨f1, f2, f3⟩ := h.way.fr f (by rw [hfree]; simp)
    obtain ⟨no, rfl⟩ : ∃ no : Nat, f = no := ⟨f.toNat, by omega⟩
    rw [Int.toNat_natCast] at f3
    have hfirst : firstF R.way = no := by unfold firstF; rw [hl]; rfl
    have hlink := h.way.link l.length no (by rw [hfree]; simp)
    rw [hfree, List.take_left' rfl, Int.toNat_natCast] at hlink
    obtain ⟨prev, hprev⟩ : ∃ prev, prev = l.getLast?.getD 0 := ⟨_, rfl⟩
    rw [← hprev] at hlink
    have hpb : 0 ≤ prev ∧ prev < lenR R := by
      unfold lenR
      rw [hprev]
      cases e : l.getLast? with
      | none => show (0 : Int) ≤ 0 ∧ (0 : Int) < _; omega
      | some g =>
        have := h.way.fr g (by rw [hfree]; simp [List.mem_of_getLast? e])
        show 0 ≤ g ∧ g < _
        omega
    have hlb : lenR R ≤ 65536 := by unfold lenR; omega
    have hrd := h.rd f3 hlink
    have hp : pickP M = ((no : Int), lenR R, prev, 0) := by
      unfold pickP
      rw [hr0]
      simp only
      rw [if_neg (by simp), hfr, hfirst, if_pos (by omega), hrd]
      simp only
      rw [if_neg (by simp), fill4_text, fill4_num hpb.1 (by omega), hus, if_neg (by rintro (e | e | e); exact e rfl; exact e rfl; omega)]
    refine h.alloc1 (by omega) (by omega) (by omega) hp ?_ ?_ rfl (h.way.take hl (by omega) (by omega)) ?_ ?_ ?_ ?_
    · show lenR R = ((R.way.kinds.set no kind).length : Nat)
      rw [List.length_set]; rfl
    · show prev = (R.way.free.dropLast.getLast?).getD 0
      rw [hd, hprev]
    · show (R.way.kinds.set no kind)[no]? = _
      exact set_same (by omega)
    · show (fixS _).rooms[no]? = _
      rw [fixS_rooms _ (by omega)]
      show (R.way.rooms.set no _)[no]? = _
      exact set_same (by rw [h.way.lr]; omega)
    · intro i k r e e0 hk hr
      have hk : (R.way.kinds.set no kind)[i]? = some k := hk
      have hr : (fixS { R.way with free := R.way.free.dropLast, kinds := R.way.kinds.set no kind, rooms := R.way.rooms.set no (fillR ⟨#[]⟩ 496) }).rooms[i]? = some r := hr
      rw [fixS_rooms _ e0] at hr
      have hr : (R.way.rooms.set no (fillR ⟨#[]⟩ 496))[i]? = some r := hr
      rw [set_other e] at hk hr
      exact ⟨hk, hr⟩
    · show _ ≤ (R.way.kinds.set no kind).length
      rw [List.length_set]; exact Nat.le_refl _
  | none =>
    simp only
    have hfirst : firstF R.way = 0 := by unfold firstF; rw [hl]; rfl
    have hfree : R.way.free = [] := List.getLast?_eq_none_iff.1 hl
    by_cases hfull : (R.most : Int) ≤ lenR R
    · rw [if_pos hfull]
      have hp : pickP M = (0, 0, 0, 8) := by
        unfold pickP
        rw [hr0]
        simp only
        rw [if_neg (by simp), hfr, hfirst, if_neg (by omega), hus, h.most, if_pos hfull]
      rw [alloc_err (oursK_yes (by omega) (by omega)) hp (by decide)]
      exact ⟨rfl, rfl, fun _ => h, fun e => by cases e⟩
    · rw [if_neg hfull]
      have hp : pickP M = (lenR R, lenR R + 1, 0, 0) := by
        unfold pickP
        rw [hr0]
        simp only
        rw [if_neg (by simp), hfr, hfirst, if_neg (by omega), hus, h.most, if_neg hfull]
      unfold lenR at hfull
      obtain ⟨no, hn⟩ : ∃ no : Nat, no = R.way.kinds.length := ⟨_, rfl⟩
      have hln : lenR R = no := by unfold lenR; rw [hn]
      rw [hln] at hp ⊢
      refine h.alloc1 (by omega) (by omega) (by omega) hp ?_ ?_ rfl (h.way.grow (by omega) (by omega) (by omega)) ?_ ?_ ?_ ?_
      · show (no : Int) + 1 = ((R.way.kinds ++ [kind]).length : Nat)
        rw [List.length_append, List.length_singleton]; omega
      · show 0 = (R.way.free.getLast?).getD 0
        rw [hl]; rfl
      · show (R.way.kinds ++ [kind])[no]? = _
        rw [hn]; simp
      · show (fixS _).rooms[no]? = _
        rw [fixS_rooms _ (by omega)]
        show (R.way.rooms ++ [fillR ⟨#[]⟩ 496])[no]? = _
        rw [hn, ← h.way.lr]; simp
      · intro i k r e e0 hk hr
        have hk : (R.way.kinds ++ [kind])[i]? = some k := hk
        have hr : (fixS { R.way with kinds := R.way.kinds ++ [kind], rooms := R.way.rooms ++ [fillR ⟨#[]⟩ 496] }).rooms[i]? = some r := hr
        rw [fixS_rooms _ e0] at hr
        have hr : (R.way.rooms ++ [fillR ⟨#[]⟩ 496])[i]? = some r := hr
        have hi : i < R.way.kinds.length := by
          have := (List.getElem?_eq_some_iff.1 hk).1
          rw [List.length_append, List.length_singleton] at this
          omega
        rw [List.getElem?_append_left hi] at hk
        rw [List.getElem?_append_left (by rw [h.way.lr]; exact hi)] at hr
        exact ⟨hk, hr⟩
      · show _ ≤ (R.way.kinds ++ [kind]).length
        rw [List.length_append]; omega
/-- Giving a page back. -/
theorem Rel.give (h : Rel M R N G) (no : Int) : (freeP M no).1 = (giveR R no).1 ∧ ((giveR R no).1 ≠ 10 → Rel (freeP M no).2 (giveR R no).2 N G) ∧ ((giveR R no).1 = 10 → Rel (abortP (freeP M no).2) (abortR (giveR R no).2) N G) := by
  have hle := h.way.le
  have hb := h.big
  unfold freeP giveR
  by_cases hin : no < 1 ∨ lenR R ≤ no
  · rw [if_pos hin, if_pos (by unfold withinP; rw [h.pages, decide_eq_false_iff_not]; omega)]
    exact ⟨rfl, fun _ => h, fun e => by cases e⟩
  rw [if_neg hin, if_neg (by unfold withinP; rw [h.pages, Bool.not_eq_false, decide_eq_true_iff]; omega)]
  obtain ⟨n, rfl⟩ : ∃ n : Nat, no = n := ⟨no.toNat, by omega⟩
  rw [Int.toNat_natCast]
  unfold lenR at hin
  have hn1 : n < R.way.kinds.length := by omega
  obtain ⟨kd, hkd⟩ : ∃ kd, R.way.kinds[n]? = some kd := ⟨R.way.kinds[n], List.getElem?_eq_getElem hn1⟩
  obtain ⟨r, hr⟩ : ∃ r, R.way.rooms[n]? = some r := ⟨R.way.rooms[n]'(by rw [h.way.lr]; exact hn1), List.getElem?_eq_getElem _⟩
  have hrd := h.rd hkd hr
  have hgd : R.way.kinds.getD n 0 = kd := by rw [List.getD_eq_getElem?_getD, hkd]; rfl
  rw [hgd, hrd, h.rd0]
  simp only [h.fre, h.used]
  rw [if_neg (by simp)]
  by_cases hk : kd = 255
  · rw [if_pos hk, if_pos hk]
    exact ⟨rfl, fun _ => h, fun e => by cases e⟩
  rw [if_neg hk, if_neg hk]
  obtain ⟨s1, s2⟩ := h.sets (no := n) (kd := 255) (room := S (leB (firstF R.way) 4)) (way' := backS R.way n) (u := lenR R) (f := (n : Int)) (by omega) (by show lenR R = ((R.way.kinds.set n 255).length : Nat); rw [List.length_set]; rfl) (by show (n : Int) = ((R.way.free ++ [(n : Int)]).getLast?).getD 0; simp) rfl (h.way.back (by omega) hn1 (by rw [hkd]; intro e; injection e with e; exact hk e)) (by show (R.way.kinds.set n 255)[n]? = _; exact set_same hn1)
    (by
      show (fixS _).rooms[n]? = _
      rw [fixS_rooms _ (by omega)]
      show (R.way.rooms.set n _)[n]? = _
      exact set_same (by rw [h.way.lr]; omega)) (by rw [S_size, leB_length]; omega) (fun i k r e e0 hk hr => by
      have hk : (R.way.kinds.set n 255)[i]? = some k := hk
      have hr : (fixS { R.way with kinds := R.way.kinds.set n 255, rooms := R.way.rooms.set n (fillR (S (leB (firstF R.way) 4)) 496), free := R.way.free ++ [(n : Int)] }).rooms[i]? = some r := hr
      rw [fixS_rooms _ e0] at hr
      have hr : (R.way.rooms.set n (fillR (S (leB (firstF R.way) 4)) 496))[i]? = some r := hr
      rw [set_other e] at hk hr
      exact ⟨hk, hr⟩) (by show _ ≤ (R.way.kinds.set n 255).length; rw [List.length_set]; exact Nat.le_refl _)
  cases hbig : bigR R [(n : Int), 0]
  · obtain ⟨e1, M2, e2, e3⟩ := s1 hbig
    rw [e1, if_neg (by simp), e2, if_neg (by decide)]
    exact ⟨rfl, fun _ => e3, fun e => by cases e⟩
  · rw [if_pos rfl]
    rcases s2 hbig with e | ⟨D, e1, e2⟩
    · rw [e, if_pos (by simp)]
      exact ⟨rfl, fun e => absurd rfl e, fun _ => h.abort⟩
    · rw [e1, if_neg (by simp), e2]
      exact ⟨rfl, fun e => absurd rfl e, fun _ => h.abort⟩
/-- Changing a root. -/
theorem Rel.setRoot (h : Rel M R N G) (i n : Int) (n0 : 0 ≤ n) (n1 : n ≤ 18446744073709551615) : (setRootP M i n).1 = (setRootR R i n).1 ∧ Rel (setRootP M i n).2 (setRootR R i n).2 N G := by
  unfold setRootP setRootR
  by_cases hi : i < 0 ∨ 7 < i
  · rw [if_pos hi, if_pos (by omega)]
    exact ⟨rfl, h⟩
  rw [if_neg hi, if_neg (by omega), h.rd0]
  simp only
  rw [if_neg (by simp), headS_rootR h.way.r8 (by omega)]
  have hok := h.way.root (i := i.toNat) (n := n) (by omega) n0 n1
  have hz := headS_size hok.r8
  have hz : (headS { R.way with roots := R.way.roots.set i.toNat n }).size = 496 := hz
  cases hbig : bigR R [0]
  · rw [if_neg (by decide), setP_yes _ _ _ arg_zero (by rw [hz]; omega) ((h.fits 0).2 hbig)]
    refine ⟨rfl, ?_⟩
    exact h.one (no := 0) (kd := 1) (room := headS { R.way with roots := R.way.roots.set i.toNat n }) hok h.way.kind0 (by rw [hok.room0, fillR_full hz]; rfl) (by omega) (fun j k r e hk hr => by
      have hr : (fixS { R.way with roots := R.way.roots.set i.toNat n }).rooms[j]? = some r := hr
      rw [fixS_rooms _ e] at hr
      exact ⟨hk, hr⟩) (Nat.le_refl _) hbig
  · rw [if_pos rfl, setP_big _ _ _ arg_zero (by rw [hz]; omega) (fun hh => by have := (h.fits 0).1 hh; rw [show ((0 : Nat) : Int) = 0 from rfl, hbig] at this; cases this)]
    exact ⟨rfl, h⟩
end
end Go.Proofs.YtpaholkmlfaflaaGreatDoor

namespace Go.Proofs.YtpaholkmlfaflaaGreatDoor
open Go.RowKit
set_option linter.unusedVariables false
section
variable {M : PM} {R : RM} {N k : Nat} {G : Int}
theorem LogIs.later {first H : Int} {ts : List TxD} (h : LogIs M N G first ts) (hG : G ≤ H) (hH : H ≤ 4611686018427387904) : LogIs M N H first ts :=
  ⟨h.up, h.wait, h.geo, h.most1, h.frm, h.lsize, h.dead, h.ldead, h.chain, h.lat, h.calm, h.hot, h.first0, Int.le_trans h.first1 hG, h.next0, Int.le_trans h.next1 hG, h.mark, h.other, h.gen1, Int.le_trans h.gen2 hG, hH⟩
theorem Rel.later {H : Int} (h : Rel M R N G) (hG : G ≤ H) (hH : H ≤ 4611686018427387904) : Rel M R N H := by
  obtain ⟨first, ts, hl⟩ := h.log
  exact ⟨⟨first, ts, hl.later hG hH⟩, h.most, h.room, h.big, h.way, h.sure, h.vw, h.vs, h.dl, h.dirty, h.dway, h.cnt⟩
theorem Rel.dirtyOk (h : Rel M R N G) (hk : PgOk M k) : DirtyOk M := fun i s hs => by
  obtain ⟨a, b, c⟩ := hk.dom i s hs
  obtain ⟨n, rfl⟩ : ∃ n : Nat, i = n := ⟨i.toNat, by omega⟩
  have hd : isD R.dirty n = true := by rw [← h.dirty, hs]; rfl
  have hn := h.dway n hd
  obtain ⟨kd, hkd⟩ : ∃ kd, R.way.kinds[n]? = some kd := ⟨R.way.kinds[n], List.getElem?_eq_getElem hn⟩
  obtain ⟨r, hr⟩ : ∃ r, R.way.rooms[n]? = some r := ⟨R.way.rooms[n]'(by rw [h.way.lr]; exact hn), List.getElem?_eq_getElem _⟩
  have hv := h.vw n kd r hkd hr
  have : viewP M n = s := by unfold viewP; rw [hs]; rfl
  rw [this] at hv
  subst hv
  have hz := h.way.roomsz hr
  exact ⟨a, b, pack_E _ _ _ (h.arg hkd) (by omega), pack_N _ _ _ (h.arg hkd) (by omega), c⟩
theorem PgOk.lay (hk : PgOk M k) (hz : (layX M).1 = 0) (hd : M.l.dead = false) : PgOk (layP M).2 (k + 8 * (hotL M).length + 1) := by
  have hl := layP_yes hz
  rw [hd, if_neg (by decide), if_neg (by decide)] at hl
  have hX := layX_ok hk
  have hN := layX_len M
  obtain ⟨Y, hY⟩ : ∃ Y, Y = (layX M).2 := ⟨_, rfl⟩
  obtain ⟨g, hg⟩ : ∃ g, g = (M.gen + 1) % 18446744073709551616 := ⟨_, rfl⟩
  rw [← hY] at hX hN hl
  rw [← hg] at hl
  rw [hl]
  exact ⟨hX, by show 2 + M.size + M.most * 8 ≤ Y.sure.length; rw [hN]; exact hk.geo, hk.size1, hk.most1, hk.room1, hk.room2, hk.frm, hk.lsize, Nat.zero_le _, hk.next0, hk.next1, by show 0 ≤ g; omega, by show g ≤ 18446744073709551615; omega, hk.dom, fun i s hs => (by cases hs)⟩
theorem lay_view (hk : PgOk M k) (i : Nat) : viewP (layP M).2 i = viewP M i := by
  unfold viewP
  rw [(layP_m M).2.2, lay_base hk i (by omega)]
/-- A checkpoint. -/
theorem Rel.ck (h : Rel M R N G) (hk : PgOk M k) (hG : G + 1 ≤ 4611686018427387904) : (0 < cntR R → ckP M = (17, M)) ∧ (cntR R = 0 → (ckP M).1 = 0 ∧ Rel (ckP M).2 R N (G + 1)) := by
  obtain ⟨first, ts, hl⟩ := h.log
  have hc := h.cntDR
  refine ⟨fun hp => ?_, fun hz => ?_⟩
  · unfold ckP; rw [if_pos (.inr (by omega))]
  · have e : ckP M = layP M := by unfold ckP; rw [if_neg (by rw [hl.dead, hc, hz]; simp)]
    obtain ⟨a, b, c⟩ := hl.lay hk hG
    rw [e]
    refine ⟨a, ⟨_, _, b⟩, ?_, ?_, h.big, h.way, h.sure, fun i kd r h1 h2 => ?_, fun i kd r h1 h2 => ?_, h.dl, ?_, h.dway, h.cnt⟩
    · rw [c]; exact h.most
    · rw [c]; exact h.room
    · rw [lay_view hk]; exact h.vw i kd r h1 h2
    · rw [lay_base hk i (by omega)]; exact h.vs i kd r h1 h2
    · rw [(layP_m M).2.2]; exact h.dirty
theorem keepP_most (M : PM) : (keepP M).most = M.most := rfl
theorem keepP_room (M : PM) : (keepP M).room = M.room := rfl
theorem keepP_none (M : PM) (i : Int) : (keepP M).dirty i = none := rfl
theorem apP_most (M : PM) : (apP M).2.most = M.most := rfl
theorem apP_room (M : PM) : (apP M).2.room = M.room := rfl
theorem keepP_dirty (M : PM) (i : Int) : ((keepP M).dirty i).isSome = false := rfl
theorem Rel.kept {E : PM} (h : Rel M R N G) {H first : Int} {ts : List TxD} (hl : LogIs E N H first ts) (hm : E.most = M.most) (hr : E.room = M.room) (hd : ∀ i, E.dirty i = none) (hb : ∀ i : Nat, baseP E i = viewP M i) : Rel E (keepR R) N H := by
  have hv : ∀ i : Nat, viewP E i = viewP M i := fun i => by unfold viewP; rw [hd]; exact hb i
  refine ⟨⟨_, _, hl⟩, hm.trans h.most, hr.trans h.room, h.big, h.way, h.way, fun i kd r h1 h2 => ?_, fun i kd r h1 h2 => ?_, by show (List.replicate R.most false).length = _; simp [keepR], fun i => ?_, fun i hi => ?_, ?_⟩
  · rw [hv]; exact h.vw i kd r h1 h2
  · rw [hb]; exact h.vw i kd r h1 h2
  · rw [hd]
    show false = isD (List.replicate R.most false) i
    rw [isD_none]
  · have hi : isD (List.replicate R.most false) i = true := hi
    rw [isD_none] at hi; cases hi
  · show ((List.replicate R.most false).filter id).length ≤ _
    rw [cnt_none]; exact Nat.zero_le _
/-- A commit. -/
theorem Rel.commit (h : Rel M R N G) (hk : PgOk M k) (hroom : R.room ≤ 64) (hG : G + 2 ≤ 4611686018427387904) :
    (M.size < 1 + 9 * cntR R → (commitP M).1 = 9 ∧ Rel (commitP M).2 R N (G + 2)) ∧ (1 + 9 * cntR R ≤ M.size → (commitP M).1 = 0 ∧ Rel (commitP M).2 (keepR R) N (G + 2)) := by
  obtain ⟨first, ts, hl⟩ := h.log
  have hc := h.cntDR
  have hcn := h.cnt
  have hdk := h.dirtyOk hk
  have hlen : (dirtyPages M).length = cntD M := by rw [dirtyPages_eq, List.length_map, dirtyL_len]
  have hs10 := hk.size1
  by_cases h0 : cntD M = 0
  · have e : commitP M = (0, M) := by unfold commitP; rw [if_neg (by rw [hl.dead]; simp), if_pos h0]
    refine ⟨fun hh => by omega, fun _ => ?_⟩
    rw [e]
    have hnone : ∀ i, M.dirty i = none := fun i => by
      cases e : M.dirty i with
      | none => rfl
      | some s =>
        exfalso
        obtain ⟨a, b, -⟩ := hk.dom i s e
        have : i ∈ dirtyL M := (dirtyL_mem M i).2 ⟨a, by have := hk.geo; have := hk.disk.few; omega, by rw [e]; rfl⟩
        have := List.length_pos_of_mem this
        rw [dirtyL_len] at this
        omega
    exact ⟨rfl, h.kept (hl.later (by omega) hG) rfl rfl hnone (fun i => by unfold viewP; rw [hnone]; rfl)⟩
  have h64 : ¬ 64 < cntD M := by rw [hc]; omega
  have hcm : commitP M = endP (if (apP M).1 = 9 ∧ 1 + 9 * cntD M ≤ M.size then (if (layP (apP M).2).1 = 0 then apP (layP (apP M).2).2 else layP (apP M).2) else apP M) := commitP_eq hl.dead h0 h64 rfl
  by_cases hfit : M.l.at_ + 1 + 9 * cntD M ≤ M.size
  · obtain ⟨a, b, c⟩ := hl.commit hk hdk (by omega) (by omega) hfit (by omega)
    rw [if_neg (by rw [a]; simp), endP_yes a] at hcm
    refine ⟨fun hh => by omega, fun _ => ?_⟩
    rw [hcm]
    refine ⟨rfl, ?_⟩
    have hb := b.later (by omega) hG
    obtain ⟨E, hE⟩ : ∃ E, E = keepP (apP M).2 := ⟨_, rfl⟩
    have e1 : E.most = M.most := by rw [hE, keepP_most, apP_most]
    have e2 : E.room = M.room := by rw [hE, keepP_room, apP_room]
    have e3 : ∀ i, E.dirty i = none := fun i => by rw [hE, keepP_none]
    simp only
    rw [← hE] at hb c ⊢
    exact h.kept hb e1 e2 e3 (fun i => c i)
  · have hap : apP M = (9, M) := by
      unfold apP
      rw [apR_no (e := 9) (by unfold apE; rw [hl.ldead, if_neg (by decide), hlen, if_neg h64, hl.lsize, if_pos (by omega)]) (by decide)]
    rw [hap] at hcm
    simp only [true_and] at hcm
    by_cases hbig : 1 + 9 * cntD M ≤ M.size
    · refine ⟨fun hh => by omega, fun _ => ?_⟩
      rw [if_pos hbig] at hcm
      obtain ⟨a, b, c⟩ := hl.lay hk (by omega)
      have hk2 : PgOk (layP M).2 (k + 8 * (hotL M).length + 1) := hk.lay (by
        by_cases e : (layX M).1 = 0
        · exact e
        · rw [layP_no e] at a
          dsimp only at a
          exact absurd a e) hl.ldead
      have hd2 : (layP M).2.dirty = M.dirty := (layP_m M).2.2
      have hdk2 : DirtyOk (layP M).2 := fun i s hs => by
        rw [hd2] at hs
        have := hdk i s hs
        rw [c]; exact this
      have hcc : cntD (layP M).2 = cntD M := by unfold cntD; rw [hd2]
      have hat : (layP M).2.l.at_ = 0 ∧ (layP M).2.size = M.size := by rw [c]; exact ⟨rfl, rfl⟩
      obtain ⟨a2, b2, c2⟩ := b.commit hk2 hdk2 (by omega) (by omega) (by rw [hat.1, hat.2, hcc]; omega) (by omega)
      rw [if_pos a, endP_yes a2] at hcm
      rw [hcm]
      refine ⟨rfl, ?_⟩
      have m1 : (layP M).2.most = M.most := by rw [c]
      have m2 : (layP M).2.room = M.room := by rw [c]
      refine h.kept (b2.later (by omega) hG) (((keepP_most _).trans (apP_most _)).trans m1) (((keepP_room _).trans (apP_room _)).trans m2) (keepP_none _) (fun i => ?_)
      rw [c2 i]
      exact lay_view hk i
    · rw [if_neg hbig, endP_no (by simp)] at hcm
      refine ⟨fun _ => ?_, fun hh => by omega⟩
      rw [hcm]
      refine ⟨rfl, ?_⟩
      have : ({ M with dead := M.dead || decide ((9 : Int) ≠ 9) } : PM) = M := by
        have e := hl.dead
        obtain ⟨m, l, size, gen, most, rm, dirty, hot, dead⟩ := M
        simp only at e
        subst e
        rfl
      show Rel { M with dead := M.dead || decide ((9 : Int) ≠ 9) } R N (G + 2)
      rw [this]
      exact h.later (by omega) hG
/-- Opening anew. -/
theorem Rel.opens (h : Rel M R N G) (hN : N ≤ 65536) (room : Nat) : openP M.m room = (0, some { abortP M with room := room }) := by
  obtain ⟨first, ts, hl⟩ := h.log
  exact hl.opens hN room h.abort.snd
end
theorem head_new : headS newS = fillR (S (leB 1 4)) 496 := by
  have e : headS newS = headS ⟨[1], [⟨#[]⟩], [], List.replicate 8 0⟩ := rfl
  rw [e, headS_eq rfl]
  unfold fillR
  rw [data_S, S_size, leB_length]
  congr 1
/-- Formatting. -/
theorem format_rel {m : DM} {N k log : Nat} (h : UpM m N) (hk : DOk m k) (hN : N ≤ 65536) (room : Nat) (hm : 1 ≤ mostI N log) :
    (formatX m log).1 = 0 ∧ openP (formatX m log).2 room = (0, some (newP (formatX m log).2 log (mostI N log) room)) ∧ Rel (newP (formatX m log).2 log (mostI N log) room) (newR (mostI N log) room) N 1 := by
  obtain ⟨a, b, c, d⟩ := format_up h hk room hm
  obtain ⟨hs10, hgeo⟩ := mostI_geo hm
  have hst := newS_ok (mostI N log) hm
  have hv : PgM (baseP (newP (formatX m log).2 log (mostI N log) room)) newS := fun i kd r h1 h2 => by
    have hi : i = 0 := by have := (List.getElem?_eq_some_iff.1 h1).1; simp [newS, fixS] at this; exact this
    subst hi
    rw [hst.kind0] at h1
    rw [hst.room0] at h2
    have h1 := Option.some.inj h1
    have h2 := Option.some.inj h2
    rw [← h1, ← h2]
    rw [head_new, pgStr_fill (by rw [S_size, leB_length]; omega)]
    show pgOf (formatX m log).2 (2 + log + (0 : Int).toNat * 8) = _
    rw [show 2 + log + (0 : Int).toNat * 8 = 2 + log by simp, c]
    rfl
  have hr : Rel (newP (formatX m log).2 log (mostI N log) room) (newR (mostI N log) room) N 1 := by
    refine ⟨⟨_, _, b⟩, rfl, rfl, by show mostI N log ≤ 65536; omega, hst, hst, hv, hv, by simp [newR], fun i => ?_, fun i hi => ?_, ?_⟩
    · show false = isD (List.replicate (mostI N log) false) i
      rw [isD_none]
    · have hi : isD (List.replicate (mostI N log) false) i = true := hi
      rw [isD_none] at hi; cases hi
    · show ((List.replicate (mostI N log) false).filter id).length ≤ _
      rw [cnt_none]; exact Nat.zero_le _
  exact ⟨a, hr.opens hN room, hr⟩
end Go.Proofs.YtpaholkmlfaflaaGreatDoor

namespace Go.Proofs.YtpaholkmlfaflaaGreatDoor
open Go.RowKit Go.Maps Go.Joins
set_option linter.unusedVariables false
/-- A pager that was made since w0. -/
structure PlayAt (w0 W : World) (b d lb pb hb : Nat) (FD FP : List Nat) (K : Nat) (M : PM) : Prop where
  pin : PgIn W b d lb pb hb FD FP K 0 M
  fb : w0.heap.size ≤ b
  fl : w0.heap.size ≤ lb
  fh : w0.heap.size ≤ hb
  fd : ∀ x ∈ FD, w0.heap.size ≤ x
  fp : ∀ x ∈ FP, w0.heap.size ≤ x
  below : Below w0.heap.size w0 W
section
variable {w0 W W' : World} {b d lb pb hb K J k : Nat} {FD FP : List Nat} {M M' : PM}
theorem PlayAt.move (h : PlayAt w0 W b d lb pb hb FD FP K M) (hb' : Below W.heap.size W W') : PlayAt w0 W' b d lb pb hb FD FP K M :=
  ⟨h.pin.below hb', h.fb, h.fl, h.fh, h.fd, h.fp, below_step hb' h.below⟩
theorem PlayAt.step (h : PlayAt w0 W b d lb pb hb FD FP K M) (s : PgStep W W' b d lb pb hb FD FP J 0 M') : ∃ FP', PlayAt w0 W' b d lb pb hb FD FP' J M' := by
  obtain ⟨FP', h1, t1, f1⟩ := s
  have hs := h.below.size
  exact ⟨FP', h1, h.fb, h.fl, h.fh, h.fd, fun x hx => (f1 x hx).elim (h.fp x) (fun h => by omega), h.below.trans (t1.below hs h.fp)⟩
theorem PlayAt.go (h : PlayAt w0 W b d lb pb hb FD FP K M) (s : PgGo W W' b d lb pb hb FD FP J k M') (hw : M'.m.wait = []) : ∃ FD' FP', PlayAt w0 W' b d lb pb hb FD' FP' J M' := by
  obtain ⟨FD', FP', h1, t1, f1, f2⟩ := s
  have hs := h.below.size
  refine ⟨FD', FP', h1.rek (h1.ok.disk.calm hw), h.fb, h.fl, h.fh, fun x hx => (f1 x hx).elim (h.fd x) (fun h => by omega), fun x hx => (f2 x hx).elim (h.fp x) (fun h => by omega), h.below.trans (t1.below hs (fun x hx => ?_))⟩
  simp only [List.mem_cons, List.mem_append] at hx
  rcases hx with rfl | rfl | rfl | hx | hx
  · exact h.fb
  · exact h.fl
  · exact h.fh
  · exact h.fd x hx
  · exact h.fp x hx
theorem PlayAt.lay (h : PlayAt w0 W b d lb pb hb FD FP K M) (s : LayGo W W' b d lb pb hb FD FP J k M') (hw : M'.m.wait = []) : ∃ FD', PlayAt w0 W' b d lb pb hb FD' FP J M' := by
  obtain ⟨FD', h1, t1, f1⟩ := s
  have hs := h.below.size
  refine ⟨FD', h1.rek (h1.ok.disk.calm hw), h.fb, h.fl, h.fh, fun x hx => (f1 x hx).elim (h.fd x) (fun h => by omega), h.fp, h.below.trans (t1.below hs (fun x hx => ?_))⟩
  simp only [List.mem_cons] at hx
  rcases hx with rfl | rfl | rfl | hx
  · exact h.fb
  · exact h.fl
  · exact h.fh
  · exact h.fd x hx
/-- A pager that was opened on a disk of the law's own. -/
theorem play_new {v : Value} (hn : NewPg W W' d FD K 0 v M) (hfd : ∀ x ∈ FD, w0.heap.size ≤ x) (hb1 : Below w0.heap.size w0 W) (hb2 : Below W.heap.size W W') : ∃ b lb pb hb FP, v = .pointer (some ⟨b, 0, none⟩) ∧ PlayAt w0 W' b d lb pb hb FD FP K M := by
  obtain ⟨b, lb, pb, hb, FP, rfl, h1, h2, h3, h4, h5⟩ := hn
  have hs := hb1.size
  exact ⟨b, lb, pb, hb, FP, rfl, h1, by omega, by omega, by omega, hfd, fun x hx => Nat.le_trans hs (h5 x hx), below_step hb2 hb1⟩
end
theorem formatX_ok {m : DM} {N k log : Nat} (h : UpM m N) (hk : DOk m k) (hm : 1 ≤ mostI N log) : DOk (formatX m log).2 0 := by
  obtain ⟨a, b, c, d⟩ := format_up h hk 2 hm
  have o1 := fmtN_ok (x := (0, m)) hk (2 + log)
  have o2 : DOk (putX (fmtN (0, m) (2 + log)) (2 + log) page0).2 (k + (2 + log) + 8) := putN_ok o1 (2 + log) page0 8
  exact ((o2.stepF.stepW (1 : Int) (mkStr 1 (superT 1 log))).stepF).calm d
theorem formatP_yes {m : DM} {N log : Nat} (h : UpM m N) (hm : 1 ≤ mostI N log) : formatP m log = formatX m log := by
  unfold formatP
  rw [h.len, if_neg (by omega), Int.toNat_natCast]
theorem setP_size (M : PM) (no kind : Int) (r : ByteArray) : (setP M no kind r).2.size = M.size := by
  unfold setP
  split
  · rfl
  · split
    · rfl
    · split <;> rfl
theorem setHeadP_size (M : PM) (u f : Int) (r : ByteArray) : (setHeadP M u f r).2.size = M.size := by unfold setHeadP; exact setP_size _ _ _ _
theorem allocP_size (M : PM) (kind : Int) : (allocP M kind).2.2.size = M.size := by
  unfold allocP
  split
  · rfl
  · simp only
    split
    · rfl
    · split
      · dsimp only
        rw [setP_size]
      · split
        · dsimp only
          rw [setHeadP_size, setP_size]
        · dsimp only
          rw [setHeadP_size, setP_size]
/-! The document's example. -/
theorem alloc_ex (k : Int) (h : ¬ (k < 2 ∨ 254 < k)) (most room : Nat) (hm : 2 ≤ most) (hr : 2 ≤ room) : ∃ R1, allocR (newR most room) k = (1, 0, R1) ∧ cntR R1 = 2 ∧ lenR R1 = 2 ∧ R1.room = room := by
  have hb : bigR (newR most room) [lenR (newR most room), 0] = false := by
    show bigR (newR most room) [((1 : Nat) : Int), 0] = false
    rw [bigR_two]
    have : cntR (newR most room) = 0 := cnt_none most
    rw [this]
    simp only [decide_eq_false_iff_not]
    split <;> split <;> (show ¬ room < _; omega)
  have e : allocR (newR most room) k = (1, 0, { newR most room with way := growS newS k, dirty := markR (List.replicate most false) [1, 0] }) := by
    unfold allocR
    rw [if_neg h]
    show (if (most : Int) ≤ lenR (newR most room) then _ else _) = _
    rw [if_neg (by show ¬ (most : Int) ≤ 1; omega), hb, if_neg (by decide)]
    rfl
  refine ⟨_, e, ?_, rfl, rfl⟩
  obtain ⟨n, rfl⟩ : ∃ n, most = n + 2 := ⟨most - 2, by omega⟩
  show (((List.replicate (n + 2) false).set 1 true).set 0 true |>.filter id).length = 2
  simp [List.replicate_succ]
set_option maxRecDepth 100000 in
set_option maxHeartbeats 4000000 in
theorem awake11_any (w : World) : Calls Tryz.prog 7 #[] w fun e w' => e = .returned (.bool true) ∧ Below w.heap.size w w' := by
  have hm : mostI 100 ((20 : Nat) : Int) = 9 := by decide
  have hup := UpM.new 100
  have hk0 : DOk (newM (newSu 100)) 0 := DOk.new (newSu_size 100) (by simp [newSu]) (by simp [newSu])
  have hfp := formatP_yes (log := 20) hup (by rw [hm]; omega)
  obtain ⟨f1, f2, f3⟩ := format_rel (log := 20) hup hk0 (by omega) 8 (by rw [hm]; omega)
  have hk1 := formatX_ok (log := 20) hup hk0 (by rw [hm]; omega)
  rw [hm] at f2 f3
  obtain ⟨X, hX⟩ : ∃ X, X = formatX (newM (newSu 100)) 20 := ⟨_, rfl⟩
  rw [← hX] at f1 f2 f3 hk1 hfp
  obtain ⟨M0, hM0⟩ : ∃ M0, M0 = newP X.2 20 9 8 := ⟨_, rfl⟩
  have hM0s : M0.size = 20 := by rw [hM0]; rfl
  rw [← hM0] at f2 f3
  obtain ⟨R1, hR1, hc1, hl1, hr1⟩ := alloc_ex 2 (by omega) 9 8 (by omega) (by omega)
  obtain ⟨a1, a2, a3, -⟩ := f3.alloc 2
  rw [hR1] at a1 a2 a3
  have a3 := a3 (by simp)
  simp only at a1 a2 a3
  have hpg0 := f3.pages
  have hsd := soundP_snd f3.snd
  have hmo : M0.most = 9 := f3.most
  have hp0 : pagesP M0 = 1 := hpg0
  have HK := Lib.hid (And.intro hk0 (And.intro hk1 (And.intro hsd a3)))
  have HFP := Lib.hid hfp
  have HF2 := Lib.hid f2
  have HN := Lib.hid (And.intro hc1 (And.intro hl1 (And.intro hr1 hM0s)))
  have HA := Lib.hid (And.intro a1 (And.intro a2 f1))
  have HP0 := Lib.hid (And.intro hmo hp0)
  have HND := Lib.hid (new_any 100 w (by omega) (by omega))
  clear hm hup hk0 hfp f1 f2 f3 hk1 hX hM0 hR1 hc1 hl1 hr1 a1 a2 a3 hpg0 hsd hmo hp0 hM0s
  go_enter Tryz.func7, Tryz.ntmps7
  go_wp2_with fail
  refine HND.out.mono ?_
  rintro e w1 ⟨d, rfl, F, hd, hb1, hF⟩
  have HFM := Lib.hid (Format_any hd HK.out.1 (by omega) (20 : Nat) (by omega) (by omega))
  rw [HFP.out] at HFM
  have HB1 := Lib.hid hb1
  have HFF := Lib.hid hF
  clear hd hb1 hF
  go_wp2_with fail
  refine HFM.out.mono ?_
  rintro e w2 ⟨rfl, F2, hd2, t2, g2⟩
  have hb2 : Below w.heap.size w w2 := HB1.out.trans (t2.below HB1.out.size HFF.out)
  have hF2 : ∀ x ∈ F2, w.heap.size ≤ x := fun x hx => (g2 x hx).elim (HFF.out x) (fun h => Nat.le_trans HB1.out.size h)
  have HOP := Lib.hid (Open_any hd2 HK.out.2.1 8 (by omega) (by omega))
  rw [HF2.out] at HOP
  have HB2 := Lib.hid hb2
  have HFF2 := Lib.hid hF2
  clear hd2 t2 g2 hb2 hF2 HFM HND
  rw [HA.out.2.2]
  go_wp2_with fail
  refine HOP.out.mono ?_
  rintro e w3 ⟨hb3, v, rfl, hn⟩
  obtain ⟨b, lb, pb, hb, FP, rfl, hpl⟩ := play_new hn HFF2.out HB2.out hb3
  have HS := Lib.hid hpl
  have HM := Lib.hid (most_any hpl.pin)
  rw [HP0.out.1] at HM
  clear hb3 hn hpl HOP
  go_wp2_with fail
  refine HM.out.mono ?_
  rintro e w4 ⟨rfl, rfl⟩
  have HP := Lib.hid (pages_any HS.out.pin (by omega))
  rw [HP0.out.2] at HP
  clear HM
  go_wp2_with fail
  refine HP.out.mono ?_
  rintro e w4 ⟨rfl, hst⟩
  obtain ⟨FP, hpl⟩ := HS.out.step hst
  have HS := Lib.hid hpl
  have HAL := Lib.hid (Alloc_any hpl.pin HK.out.2.2.1 (by omega) 2)
  rw [HA.out.1, HA.out.2.1] at HAL
  clear hst hpl HP
  go_wp2_with fail
  refine HAL.out.mono ?_
  rintro e w5 ⟨rfl, hst⟩
  obtain ⟨FP, hpl⟩ := HS.out.step hst
  have HS := Lib.hid hpl
  have hcc := (HK.out.2.2.2.commit hpl.pin.ok (by rw [HN.out.2.2.1]; omega) (by decide)).2 (by rw [HN.out.1]; have : (allocP M0 2).2.2.size = M0.size := allocP_size M0 2; have := HN.out.2.2.2; omega)
  have HCO := Lib.hid (Commit_any hpl.pin (by omega) (by omega))
  rw [hcc.1] at HCO
  have HCC := Lib.hid hcc.2
  clear hst hpl HAL hcc
  go_wp2_with fail
  refine HCO.out.mono ?_
  rintro e w6 ⟨rfl, hgo⟩
  obtain ⟨FD, FP, hpl⟩ := HS.out.go hgo (HCC.out.log.elim fun _ h => h.elim fun _ h => h.wait)
  have HS := Lib.hid hpl
  have hck := (HCC.out.ck hpl.pin.ok (by decide)).2 (cnt_none _)
  have HCK := Lib.hid (ck_any hpl.pin (by omega))
  rw [hck.1] at HCK
  have HKK := Lib.hid hck.2
  clear hgo hpl HCO hck
  go_wp2_with fail
  refine HCK.out.mono ?_
  rintro e w7 ⟨rfl, hgo⟩
  obtain ⟨FD, hpl⟩ := HS.out.lay hgo (HKK.out.log.elim fun _ h => h.elim fun _ h => h.wait)
  have HS := Lib.hid hpl
  have HP := Lib.hid (pages_any hpl.pin (by omega))
  rw [HKK.out.pages, show lenR (keepR R1) = lenR R1 from rfl, HN.out.2.1] at HP
  clear hgo hpl HCK
  go_wp2_with fail
  refine HP.out.mono ?_
  rintro e w8 ⟨rfl, hst⟩
  obtain ⟨FP, hpl⟩ := HS.out.step hst
  have HB := Lib.hid hpl.below
  clear hst hpl HP
  go_wp2_with fail
  go_ret
  exact ⟨rfl, HB.out⟩
end Go.Proofs.YtpaholkmlfaflaaGreatDoor

namespace Go.Proofs.YtpaholkmlfaflaaGreatDoor
open Go.RowKit Go.Maps Go.Joins
set_option linter.unusedVariables false
set_option maxRecDepth 100000 in
set_option maxHeartbeats 1000000 in
theorem Read_nil (w : World) (no : Int) : Calls Tryz.prog 18 #[.pointer none, .int .i64 no] w fun e w' => e = .returned (.tuple #[.int .i64 0, .string ⟨#[]⟩, .int .i64 1]) ∧ w = w' := by
  go_enter Tryz.func18, Tryz.ntmps18
  go_wp2_with fail
  go_ret3
  exact ⟨rfl, rfl⟩
set_option maxRecDepth 100000 in
set_option maxHeartbeats 1000000 in
theorem Alloc_nil (w : World) (kind : Int) : Calls Tryz.prog 23 #[.pointer none, .int .i64 kind] w fun e w' => e = .returned (.tuple #[.int .i64 0, .int .i64 1]) ∧ w = w' := by
  go_enter Tryz.func23, Tryz.ntmps23
  go_wp2_with fail
  go_ret2
  exact ⟨rfl, rfl⟩
set_option maxRecDepth 100000 in
set_option maxHeartbeats 1000000 in
theorem Root_nil (w : World) (i : Int) : Calls Tryz.prog 19 #[.pointer none, .int .i64 i] w fun e w' => e = .returned (.tuple #[.int .u64 0, .int .i64 1]) ∧ w = w' := by
  go_enter Tryz.func19, Tryz.ntmps19
  go_wp2_with fail
  go_ret2
  exact ⟨rfl, rfl⟩
set_option maxRecDepth 100000 in
set_option maxHeartbeats 1000000 in
theorem Abort_nil (w : World)  : Calls Tryz.prog 25 #[.pointer none] w fun e w' => e = .returned (.tuple #[]) ∧ w = w' := by
  go_enter Tryz.func25, Tryz.ntmps25
  go_wp2_with fail
  go_end0
  exact ⟨rfl, rfl⟩
set_option maxRecDepth 100000 in
set_option maxHeartbeats 1000000 in
theorem within_nil (w : World) (no : Int) : Calls Tryz.prog 73 #[.pointer none, .int .i64 no] w fun e w' => e = .returned (.bool false) ∧ w = w' := by
  go_enter Tryz.func73, Tryz.ntmps73
  go_wp2_with fail
  go_ret
  exact ⟨rfl, rfl⟩
set_option maxRecDepth 100000 in
set_option maxHeartbeats 1000000 in
theorem Write_nil (w : World) (no kind : Int) (room : ByteArray) : Calls Tryz.prog 27 #[.pointer none, .int .i64 no, .int .i64 kind, .string room] w fun e w' => e = .returned (.int .i64 1) ∧ w = w' := by
  go_enter Tryz.func27, Tryz.ntmps27
  go_wp2_with fail
  refine (within_nil _ no).mono ?_
  rintro e w1 ⟨rfl, rfl⟩
  go_wp2_with fail
  go_ret
  exact ⟨rfl, rfl⟩
set_option maxRecDepth 100000 in
set_option maxHeartbeats 1000000 in
theorem Free_nil (w : World) (no : Int) : Calls Tryz.prog 30 #[.pointer none, .int .i64 no] w fun e w' => e = .returned (.int .i64 1) ∧ w = w' := by
  go_enter Tryz.func30, Tryz.ntmps30
  go_wp2_with fail
  refine (within_nil _ no).mono ?_
  rintro e w1 ⟨rfl, rfl⟩
  go_wp2_with fail
  go_ret
  exact ⟨rfl, rfl⟩
set_option maxRecDepth 100000 in
set_option maxHeartbeats 1000000 in
theorem SetRoot_nil (w : World) (i n : Int) : Calls Tryz.prog 32 #[.pointer none, .int .i64 i, .int .u64 n] w fun e w' => e = .returned (.int .i64 1) ∧ w = w' := by
  go_enter Tryz.func32, Tryz.ntmps32
  go_wp2_with fail
  go_ret
  exact ⟨rfl, rfl⟩
set_option maxRecDepth 100000 in
set_option maxHeartbeats 1000000 in
theorem Commit_nil (w : World)  : Calls Tryz.prog 34 #[.pointer none] w fun e w' => e = .returned (.int .i64 1) ∧ w = w' := by
  go_enter Tryz.func34, Tryz.ntmps34
  go_wp2_with fail
  go_ret
  exact ⟨rfl, rfl⟩
set_option maxRecDepth 100000 in
set_option maxHeartbeats 1000000 in
theorem Checkpoint_nil (w : World)  : Calls Tryz.prog 37 #[.pointer none] w fun e w' => e = .returned (.int .i64 1) ∧ w = w' := by
  go_enter Tryz.func37, Tryz.ntmps37
  go_wp2_with fail
  go_ret
  exact ⟨rfl, rfl⟩
set_option maxRecDepth 100000 in
set_option maxHeartbeats 1000000 in
theorem Pages_nil (w : World)  : Calls Tryz.prog 20 #[.pointer none] w fun e w' => e = .returned (.int .i64 0) ∧ w = w' := by
  go_enter Tryz.func20, Tryz.ntmps20
  go_wp2_with fail
  go_ret
  exact ⟨rfl, rfl⟩
set_option maxRecDepth 100000 in
set_option maxHeartbeats 1000000 in
theorem Most_nil (w : World)  : Calls Tryz.prog 15 #[.pointer none] w fun e w' => e = .returned (.int .i64 0) ∧ w = w' := by
  go_enter Tryz.func15, Tryz.ntmps15
  go_wp2_with fail
  go_ret
  exact ⟨rfl, rfl⟩
set_option maxRecDepth 100000 in
set_option maxHeartbeats 1000000 in
theorem Dirty_nil (w : World)  : Calls Tryz.prog 38 #[.pointer none] w fun e w' => e = .returned (.int .i64 0) ∧ w = w' := by
  go_enter Tryz.func38, Tryz.ntmps38
  go_wp2_with fail
  go_ret
  exact ⟨rfl, rfl⟩
/-! A disk that goes down. -/
theorem stepW_off {x : Int × DM} (h : x.1 ≠ 0) (i : Int) (s : ByteArray) : stepW x i s = x := by unfold stepW; rw [if_neg h]
theorem stepF_off {x : Int × DM} (h : x.1 ≠ 0) : stepF x = x := by unfold stepF; rw [if_neg h]
theorem putN_off {x : Int × DM} (h : x.1 ≠ 0) (a : Nat) (s : ByteArray) : ∀ n, putN x a s n = x
  | 0 => rfl
  | n + 1 => by rw [putN_succ, putN_off h a s n, stepW_off h]
theorem fmtN_down {m : DM} (h : m.down = true) : ∀ n, fmtN (0, m) (n + 1) = (11, m)
  | 0 => by
    show stepW (0, m) _ _ = _
    unfold stepW wrM
    rw [if_pos rfl, h]
    rfl
  | n + 1 => by rw [fmtN_succ, fmtN_down h n, stepW_off (by simp)]
theorem formatX_down {m : DM} (h : m.down = true) (log : Nat) : formatX m log = (11, m) := by
  unfold formatX
  rw [show 2 + log = (1 + log) + 1 by omega, fmtN_down h]
  have e : putX (11, m) (1 + log + 1) page0 = (11, m) := putN_off (by simp) _ _ 8
  have f : stepF (11, m) = (11, m) := stepF_off (by simp)
  have g : stepW (11, m) 1 (mkStr 1 (superT 1 log)) = (11, m) := stepW_off (by simp) _ _
  rw [e, f, g, f]
theorem secM_fuse (m : DM) (n : Int) (i : Nat) : secM (fuM m n) i = secM m i := rfl
section
variable {w w' : World} {b d lb pb hb K k : Nat} {FD FP F' : List Nat} {M : PM}
/-- The fuse is set outside the pager. -/
theorem PgIn.fused (h : PgIn w b d lb pb hb FD FP K k M) {n : Int} (h2 : n ≤ 9223372036854775807) (g : Goes w w' d FD (fuM M.m n)) : ∃ FD', PgIn w' b d lb pb hb FD' FP K k { M with m := fuM M.m n } ∧ Touch FD w w' ∧ ∀ x ∈ FD', x ∈ FD ∨ w.heap.size ≤ x := by
  obtain ⟨F', hd, ht, hF⟩ := g
  obtain ⟨fr, hp, hc⟩ := h.pool
  obtain ⟨nn, hn, hm⟩ := h.hot
  have hlt := h.lt
  have hk := h.ok
  have out : ∀ x, x < w.heap.size → x ∉ FD → x ∉ F' := fun x hx hf hm => (hF x hm).elim hf (by omega)
  refine ⟨F', ⟨World.rowIs.congr (rowIs_touch h.cells ht h.nb.1) (fun i hi => pgF_congr rfl rfl rfl rfl i), hd, h.log.touch ht h.nl.1, ⟨fr, hp.touch ht (fun x hx hf => h.nd x hf hx), hc⟩, ⟨nn, hn, hm.touch ht h.nh.1⟩, ?_, ⟨out b hlt.1 h.nb.1, h.nb.2⟩, ⟨out lb hlt.2.1 h.nl.1, h.nl.2⟩, ⟨out hb hlt.2.2.1 h.nh.1, h.nh.2⟩, fun x hx hx' => ?_⟩, ht, hF⟩
  · exact ⟨hk.disk.setFuse n h2, hk.geo, hk.size1, hk.most1, hk.room1, hk.room2, hk.frm, hk.lsize, hk.lat, hk.next0, hk.next1, hk.gen0, hk.gen1, hk.dom, hk.hdom⟩
  · have := hlt.2.2.2.2 x hx'
    exact (hF x hx).elim (fun hf => h.nd x hf hx') (by omega)
end
/-- A pager whose disk goes down at a checkpoint. -/
theorem ck_burn {M : PM} {N : Nat} (h : UpM M.m N) (hd : M.dead = false) (hc : cntD M = 0) (hh : hotL M = []) : ∃ X, (ckP { M with m := fuM M.m 0 }) = (11, { M with m := X, dead := true }) ∧ X.down = true ∧ X.wait = M.m.wait := by
  have e : ckP { M with m := fuM M.m 0 } = layP { M with m := fuM M.m 0 } := by
    unfold ckP
    rw [if_neg (by show ¬ (M.dead = true ∨ 0 < cntD M); rw [hd, hc]; simp)]
  have hf : flM (fuM M.m 0) = (11, (burnM (fuM M.m 0)).2) ∧ (burnM (fuM M.m 0)).2.down = true ∧ (burnM (fuM M.m 0)).2.wait = M.m.wait := by
    have hb : burnM (fuM M.m 0) = (false, { fuM M.m 0 with down := true, fuse := -1 }) := by
      unfold burnM
      rw [if_pos (by rfl)]
    unfold flM
    rw [hb, if_neg (by show ¬ (M.m.down = true); rw [h.down]; decide)]
    exact ⟨rfl, rfl, rfl⟩
  obtain ⟨Y, hY⟩ : ∃ Y, Y = (burnM (fuM M.m 0)).2 := ⟨_, rfl⟩
  rw [← hY] at hf
  have hx : layX { M with m := fuM M.m 0 } = (11, Y) := by
    rw [layX_eq]
    show stepF (stepW (stepF (layN (0, fuM M.m 0) M.hot M.size (hotL M))) _ _) = _
    rw [hh]
    show stepF (stepW (stepF (0, fuM M.m 0)) _ _) = _
    have e1 : stepF (0, fuM M.m 0) = (11, Y) := by unfold stepF; rw [if_pos rfl]; exact hf.1
    rw [e1, stepW_off (by simp), stepF_off (by simp)]
  refine ⟨Y, ?_, hf.2⟩
  rw [e, layP_no (by rw [hx]; simp), hx]
end Go.Proofs.YtpaholkmlfaflaaGreatDoor

