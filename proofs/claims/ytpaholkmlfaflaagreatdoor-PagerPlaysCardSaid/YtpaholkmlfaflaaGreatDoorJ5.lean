/- Lemmas on the way to the statement: Pool1, Pool2, Pool3, Pool4, Pool5, Pool6, Pool7, Pool8, PagerPlain, Redo8, Best. -/
import Derived.Test.YtpaholkmlfaflaaGreatDoorJ1
import Derived.Test.YtpaholkmlfaflaaGreatDoorJ2
import Derived.Test.YtpaholkmlfaflaaGreatDoorJ4
import Derived.Lib.Hide
import Derived.Deep.QuietTactic
import Derived.BigQuiet
import Derived.Sort.OwnSortedInts
namespace Go.Proofs.YtpaholkmlfaflaaGreatDoor
open Go.RowKit Go.Maps Go.Joins
set_option linter.unusedVariables false

def frF (s : ByteArray) (d : Bool) (u : Int) : Nat → Value
  | 0 => .string s
  | 1 => .bool d
  | 2 => .int .i64 0
  | _ => .int .i64 u
def poolF (room : Nat) (clock : Int) (mb : Nat) : Nat → Value
  | 0 => .int .i64 room
  | 1 => .int .i64 clock
  | _ => .map (some mb)
def ptrV (b : Nat) : Value := .pointer (some ⟨b, 0, none⟩)
theorem ptrV_eq (b : Nat) : ptrV b = .pointer (some ⟨b, 0, none⟩) := rfl
/-- What stands at hand: a page's bytes, and whether it is dirty. -/
abbrev Hand := Int → Option (ByteArray × Bool)
/-- How many of the numbers below N are told of by p. -/
def cntI (p : Int → Bool) (N : Nat) : Nat := ((List.range N).filter fun i : Nat => p i).length
theorem cntI_succ (p : Int → Bool) (N : Nat) : cntI p (N + 1) = cntI p N + (if p N then 1 else 0) := by
  unfold cntI
  rw [List.range_succ, List.filter_append, List.length_append]
  cases h : p (N : Int) <;> simp [h]
theorem cntI_congr {p q : Int → Bool} : ∀ (N : Nat), (∀ i : Nat, i < N → p i = q i) → cntI p N = cntI q N
  | 0, _ => rfl
  | N + 1, h => by rw [cntI_succ, cntI_succ, cntI_congr N (fun i hi => h i (by omega)), h N (by omega)]
theorem cntI_set {p q : Int → Bool} {x : Nat} (h : ∀ i : Int, i ≠ x → p i = q i) : ∀ (N : Nat), x < N → cntI p N + (if q x then 1 else 0) = cntI q N + (if p x then 1 else 0)
  | 0, hx => absurd hx (by omega)
  | N + 1, hx => by
    rw [cntI_succ, cntI_succ]
    by_cases e : x = N
    · subst e
      rw [cntI_congr x (fun i hi => h i (by omega))]
      omega
    · have := cntI_set h N (by omega)
      rw [h N (by omega)]
      omega
theorem cntI_le {p q : Int → Bool} (h : ∀ i, p i = true → q i = true) : ∀ (N : Nat), cntI p N ≤ cntI q N
  | 0 => Nat.le_refl _
  | N + 1 => by
    have := cntI_le h N
    rw [cntI_succ, cntI_succ]
    have h2 := h N
    cases h3 : p (N : Int)
    · simp; omega
    · rw [h2 h3]; simp; omega
theorem cntI_lt {p q : Int → Bool} (h : ∀ i, p i = true → q i = true) {x : Nat} (h1 : p x = false) (h2 : q x = true) (N : Nat) (hx : x < N) : cntI p N < cntI q N := by
  obtain ⟨P', e1, e2⟩ : ∃ P' : Int → Bool, P' x = true ∧ ∀ i : Int, i ≠ x → P' i = p i := ⟨fun i => if i = x then true else p i, by simp, fun i hi => by simp [hi]⟩
  have k := cntI_set (p := P') (q := p) (x := x) e2 N hx
  have k2 := cntI_le (p := P') (q := q) (fun i hi => by
    by_cases e : i = x
    · subst e; exact h2
    · rw [e2 i e] at hi; exact h i hi) N
  rw [e1, h1] at k
  simp at k
  omega

/-- A pool lies at pb, its map at mb; the frames are the blocks that at_ tells. -/
structure PoolAt (w : World) (pb mb room n : Nat) (clock : Int) (at_ : Int → Option Nat) (us : Int → Int) (fr : Hand) : Prop where
  cells : w.rowIs pb 132 3 (poolF room clock mb)
  map : MapN w Tryz.prog 3 mb n (Value.int .i64) ptrV at_
  row : ∀ no b, at_ no = some b → ∃ s d, fr no = some (s, d) ∧ w.rowIs b 152 4 (frF s d (us no)) ∧ 0 ≤ us no ∧ us no ≤ clock ∧ b ≠ pb ∧ b ≠ mb
  out : ∀ no, at_ no = none → fr no = none
  inj : ∀ i j b, at_ i = some b → at_ j = some b → i = j
  ne : pb ≠ mb
  c0 : 0 ≤ clock
  dom : ∀ no b, at_ no = some b → 0 ≤ no ∧ no < 100000
  cnt : n = cntI (fun i => (fr i).isSome) 100000
  le : n ≤ room
  room1 : 1 ≤ room
  room2 : room ≤ 65536
/-- A pool, wherever its parts lie: in blocks of F; its clock is at most K. -/
def IsPool (w : World) (pb : Nat) (F : List Nat) (room K : Nat) (fr : Hand) : Prop :=
  ∃ mb n clock at_ us, PoolAt w pb mb room n clock at_ us fr ∧ clock ≤ K ∧ pb ∈ F ∧ mb ∈ F ∧ (∀ no b, at_ no = some b → b ∈ F) ∧ ∀ b ∈ F, b < w.heap.size
/-- What has become of a pool. -/
def PoolGo (w w' : World) (pb : Nat) (F : List Nat) (room K : Nat) (fr : Hand) : Prop :=
  ∃ F', IsPool w' pb F' room K fr ∧ Touch F w w' ∧ ∀ b ∈ F', b ∈ F ∨ w.heap.size ≤ b

section
variable {w w' : World} {pb mb room n K : Nat} {clock : Int} {at_ : Int → Option Nat} {us : Int → Int} {fr : Hand} {F G : List Nat}
theorem PoolAt.touch (h : PoolAt w pb mb room n clock at_ us fr) (t : Touch G w w') (h1 : pb ∉ G) (h2 : mb ∉ G) (h3 : ∀ no b, at_ no = some b → b ∉ G) : PoolAt w' pb mb room n clock at_ us fr :=
  ⟨rowIs_touch h.cells t h1, h.map.touch t h2, fun no b hb => (h.row no b hb).elim fun s x => x.elim fun d x => ⟨s, d, x.1, rowIs_touch x.2.1 t (h3 no b hb), x.2.2⟩, h.out, h.inj, h.ne, h.c0, h.dom, h.cnt, h.le, h.room1, h.room2⟩
theorem IsPool.touch (h : IsPool w pb F room K fr) (t : Touch G w w') (hG : ∀ b ∈ F, b ∉ G) : IsPool w' pb F room K fr := by
  obtain ⟨mb, n, clock, at_, us, h, hk, h1, h2, h3, h4⟩ := h
  exact ⟨mb, n, clock, at_, us, h.touch t (hG _ h1) (hG _ h2) (fun no b hb => hG _ (h3 no b hb)), hk, h1, h2, h3, fun b hb => Nat.lt_of_lt_of_le (h4 b hb) t.size⟩
theorem IsPool.below (h : IsPool w pb F room K fr) (hb : Below w.heap.size w w') : IsPool w' pb F room K fr := h.touch (G := []) (Touch.of_below hb) (fun b _ hm => by cases hm)
theorem IsPool.mono (h : IsPool w pb F room K fr) {J : Nat} (hJ : K ≤ J) : IsPool w pb F room J fr := by
  obtain ⟨mb, n, clock, at_, us, h, hk, r⟩ := h
  exact ⟨mb, n, clock, at_, us, h, by omega, r⟩
theorem IsPool.lt (h : IsPool w pb F room K fr) : ∀ b ∈ F, b < w.heap.size := by
  obtain ⟨mb, n, clock, at_, us, h, hk, h1, h2, h3, h4⟩ := h
  exact h4
theorem PoolGo.refl (h : IsPool w pb F room K fr) : PoolGo w w pb F room K fr := ⟨F, h, Touch.refl _ _, fun b hb => .inl hb⟩
theorem PoolGo.trans {w1 w2 : World} {fr' : Hand} {J : Nat} {F1 : List Nat} (t : Touch F w w1) (hF : ∀ b ∈ F1, b ∈ F ∨ w.heap.size ≤ b) (h : PoolGo w1 w2 pb F1 room J fr') : PoolGo w w2 pb F room J fr' := by
  obtain ⟨F2, h1, h2, h3⟩ := h
  exact ⟨F2, h1, t.trans h2 hF, fun b hb => (h3 b hb).elim (hF b) (fun h => .inr (Nat.le_trans t.size h))⟩
theorem PoolGo.below {w0 w1 : World} (hb : Below w0.heap.size w0 w) (h : PoolGo w w1 pb F room K fr) : PoolGo w0 w1 pb F room K fr := by
  obtain ⟨F2, h1, h2, h3⟩ := h
  exact ⟨F2, h1, (Touch.of_below hb).trans h2 (fun b h => .inl h), fun b hb' => (h3 b hb').imp id (fun h => Nat.le_trans hb.size h)⟩
theorem PoolAt.cell (h : PoolAt w pb mb room n clock at_ us fr) : w.cell? ⟨pb, 0, none⟩ = some (.int .i64 room) ∧ w.cell? ⟨pb, 1, none⟩ = some (.int .i64 clock) ∧ w.cell? ⟨pb, 2, none⟩ = some (.map (some mb)) :=
  ⟨World.rowIs.cell h.cells (i := 0) (by decide), World.rowIs.cell h.cells (i := 1) (by decide), World.rowIs.cell h.cells (i := 2) (by decide)⟩
theorem PoolAt.frozen (h : PoolAt w pb mb room n clock at_ us fr) (i : Nat) : w.frozen? ⟨pb, i, none⟩ = false := World.rowIs.frozen h.cells i
theorem frame_cell {w : World} {b : Nat} {s : ByteArray} {d : Bool} {u : Int} (h : w.rowIs b 152 4 (frF s d u)) :
    w.cell? ⟨b, 0, none⟩ = some (.string s) ∧ w.cell? ⟨b, 1, none⟩ = some (.bool d) ∧ w.cell? ⟨b, 2, none⟩ = some (.int .i64 0) ∧ w.cell? ⟨b, 3, none⟩ = some (.int .i64 u) :=
  ⟨World.rowIs.cell h (i := 0) (by decide), World.rowIs.cell h (i := 1) (by decide), World.rowIs.cell h (i := 2) (by decide), World.rowIs.cell h (i := 3) (by decide)⟩
theorem Tryz.keyIntP : Keyed Tryz.prog 3 := int_keyed Tryz.underlying3
theorem keyP {no : Int} (h0 : -9223372036854775808 ≤ no) (h1 : no ≤ 9223372036854775807) : keyOf Tryz.prog 3 (.int .i64 no) = some (.int .i64 no) := keyOf_int_mk Tryz.underlying3 (WalkArith.wf_i64 (by omega))
theorem zeroP (w : World) : (zeroValue 150).run Tryz.prog w = .ok (.pointer none) w := by kernel_rfl

set_option maxRecDepth 100000 in
set_option maxHeartbeats 1000000 in
theorem find_any (h : PoolAt w pb mb room n clock at_ us fr) (no : Int) (h0 : -9223372036854775808 ≤ no) (h1 : no ≤ 9223372036854775807) :
    Calls Tryz.prog 100 #[.pointer (some ⟨pb, 0, none⟩), .int .i64 no] w fun e w' => e = .returned (((at_ no).map ptrV).getD (.pointer none)) ∧ w = w' := by
  obtain ⟨c0, c1, c2⟩ := h.cell
  have hl := h.map.toT.look Tryz.keyIntP Tryz.underlying130 (zeroP w) (x := no) (keyP h0 h1)
  clear h
  go_enter Tryz.func100, Tryz.ntmps100
  go_wp2_with fail
  go_ret
  exact ⟨rfl, rfl⟩
set_option maxRecDepth 100000 in
set_option maxHeartbeats 1000000 in
theorem find_nil (w : World) (no : Int) : Calls Tryz.prog 100 #[.pointer none, .int .i64 no] w fun e w' => e = .returned (.pointer none) ∧ w = w' := by
  go_enter Tryz.func100, Tryz.ntmps100
  go_wp2_with fail
  go_ret
  exact ⟨rfl, rfl⟩
end

/-- One thing said anew. -/
def updI {β : Type} (f : Int → β) (x : Int) (v : β) : Int → β := fun y => if y = x then v else f y
theorem updI_same {β : Type} (f : Int → β) (x : Int) (v : β) : updI f x v x = v := if_pos rfl
theorem updI_other {β : Type} (f : Int → β) {x y : Int} (v : β) (h : y ≠ x) : updI f x v y = f y := if_neg h
section
variable {w w' : World} {pb mb room n b : Nat} {clock c' u' no : Int} {at_ : Int → Option Nat} {us : Int → Int} {fr : Hand} {s' : ByteArray} {d' : Bool}
/-- A frame is turned. -/
theorem PoolAt.change (h : PoolAt w pb mb room n clock at_ us fr) (hb : at_ no = some b) (t : Touch [pb, b] w w') (hc : w'.rowIs pb 132 3 (poolF room c' mb)) (hf : w'.rowIs b 152 4 (frF s' d' u')) (u0 : 0 ≤ u') (u1 : u' ≤ c') (hcl : clock ≤ c') :
    PoolAt w' pb mb room n c' at_ (updI us no u') (updI fr no (some (s', d'))) := by
  obtain ⟨s0, d0, e0, -, -, -, n1, n2⟩ := h.row no b hb
  refine ⟨hc, h.map.touch t (by simp; exact ⟨fun e => h.ne e.symm, fun e => n2 e.symm⟩), fun i b' hb' => ?_, fun i hi => ?_, h.inj, h.ne, by have := h.c0; omega, h.dom, ?_, h.le, h.room1, h.room2⟩
  · by_cases e : i = no
    · subst e
      rw [hb] at hb'
      injection hb' with hb'
      subst hb'
      exact ⟨s', d', updI_same _ _ _, by rw [updI_same]; exact hf, by rw [updI_same]; exact u0, by rw [updI_same]; exact u1, n1, n2⟩
    · obtain ⟨s1, d1, e1, r1, q1, q2, m1, m2⟩ := h.row i b' hb'
      refine ⟨s1, d1, by rw [updI_other _ _ e]; exact e1, ?_, by rw [updI_other _ _ e]; exact q1, by rw [updI_other _ _ e]; omega, m1, m2⟩
      rw [updI_other _ _ e]
      exact rowIs_touch r1 t (by simp; exact ⟨m1, fun e' => e (h.inj i no b (e' ▸ hb') hb)⟩)
  · have e : i ≠ no := fun e => by subst e; rw [hb] at hi; cases hi
    rw [updI_other _ _ e]
    exact h.out i hi
  · rw [h.cnt]
    refine cntI_congr _ (fun i _ => ?_)
    by_cases e : (i : Int) = no
    · rw [e, updI_same, e0]; rfl
    · rw [updI_other _ _ e]
/-- A frame is put in. -/
theorem PoolAt.add (h : PoolAt w pb mb room n clock at_ us fr) (hno : at_ no = none) (t : Touch [pb, mb] w w') (hb : w.heap.size ≤ b) (hm : MapN w' Tryz.prog 3 mb (n + 1) (Value.int .i64) ptrV (updI at_ no (some b))) (hc : w'.rowIs pb 132 3 (poolF room c' mb)) (hf : w'.rowIs b 152 4 (frF s' d' u'))
    (u0 : 0 ≤ u') (u1 : u' ≤ c') (hcl : clock ≤ c') (hn : n + 1 ≤ room) (d0 : 0 ≤ no) (d1 : no < 100000) : PoolAt w' pb mb room (n + 1) c' (updI at_ no (some b)) (updI us no u') (updI fr no (some (s', d'))) := by
  have hp := World.rowIs.lt h.cells
  have hm' := h.map.toT.lt
  have hlt : ∀ i b', at_ i = some b' → b' < w.heap.size := fun i b' hb' => by
    obtain ⟨_, _, _, r, _⟩ := h.row i b' hb'
    exact World.rowIs.lt r
  refine ⟨hc, hm, fun i b' hb' => ?_, fun i hi => ?_, fun i j b' hi hj => ?_, h.ne, by have := h.c0; omega, fun i b' hb' => ?_, ?_, hn, h.room1, h.room2⟩
  · by_cases e : i = no
    · subst e
      rw [updI_same] at hb'
      injection hb' with hb'
      subst hb'
      exact ⟨s', d', updI_same _ _ _, by rw [updI_same]; exact hf, by rw [updI_same]; exact u0, by rw [updI_same]; exact u1, by omega, by omega⟩
    · rw [updI_other _ _ e] at hb'
      obtain ⟨s1, d1', e1, r1, q1, q2, m1, m2⟩ := h.row i b' hb'
      refine ⟨s1, d1', by rw [updI_other _ _ e]; exact e1, ?_, by rw [updI_other _ _ e]; exact q1, by rw [updI_other _ _ e]; omega, m1, m2⟩
      rw [updI_other _ _ e]
      exact rowIs_touch r1 t (by simp; exact ⟨m1, m2⟩)
  · by_cases e : i = no
    · subst e; rw [updI_same] at hi; cases hi
    · rw [updI_other _ _ e] at hi ⊢
      exact h.out i hi
  · by_cases e : i = no <;> by_cases e2 : j = no
    · rw [e, e2]
    · subst e
      rw [updI_same] at hi
      rw [updI_other _ _ e2] at hj
      injection hi with hi
      have := hlt j b' hj
      omega
    · subst e2
      rw [updI_same] at hj
      rw [updI_other _ _ e] at hi
      injection hj with hj
      have := hlt i b' hi
      omega
    · rw [updI_other _ _ e] at hi
      rw [updI_other _ _ e2] at hj
      exact h.inj i j b' hi hj
  · by_cases e : i = no
    · subst e; exact ⟨d0, d1⟩
    · rw [updI_other _ _ e] at hb'
      exact h.dom i b' hb'
  · have k := cntI_set (p := fun i => (updI fr no (some (s', d')) i).isSome) (q := fun i => (fr i).isSome) (x := no.toNat) (fun i hi => by rw [updI_other _ _ (by omega)]) 100000 (by omega)
    rw [show ((no.toNat : Nat) : Int) = no by omega, updI_same, h.out no hno] at k
    simp at k
    rw [h.cnt]
    omega
/-- A frame is let go. -/
theorem PoolAt.del (h : PoolAt w pb mb room n clock at_ us fr) (hb : at_ no = some b) {n' : Nat} (t : Touch [mb] w w') (hm : MapN w' Tryz.prog 3 mb n' (Value.int .i64) ptrV (updI at_ no none)) (hn : n' + 1 = n) :
    PoolAt w' pb mb room n' clock (updI at_ no none) us (updI fr no none) := by
  obtain ⟨s0, d0, e0, -⟩ := h.row no b hb
  refine ⟨rowIs_touch h.cells t (by simp; exact h.ne), hm, fun i b' hb' => ?_, fun i hi => ?_, fun i j b' hi hj => ?_, h.ne, h.c0, fun i b' hb' => ?_, ?_, by have := h.le; omega, h.room1, h.room2⟩
  · by_cases e : i = no
    · subst e; rw [updI_same] at hb'; cases hb'
    · rw [updI_other _ _ e] at hb'
      obtain ⟨s1, d1', e1, r1, q1, q2, m1, m2⟩ := h.row i b' hb'
      exact ⟨s1, d1', by rw [updI_other _ _ e]; exact e1, rowIs_touch r1 t (by simp; exact m2), q1, q2, m1, m2⟩
  · by_cases e : i = no
    · subst e; rw [updI_same]
    · rw [updI_other _ _ e] at hi ⊢
      exact h.out i hi
  · have e : i ≠ no := fun e => by subst e; rw [updI_same] at hi; cases hi
    have e2 : j ≠ no := fun e => by subst e; rw [updI_same] at hj; cases hj
    rw [updI_other _ _ e] at hi
    rw [updI_other _ _ e2] at hj
    exact h.inj i j b' hi hj
  · have e : i ≠ no := fun e => by subst e; rw [updI_same] at hb'; cases hb'
    rw [updI_other _ _ e] at hb'
    exact h.dom i b' hb'
  · have hd := h.dom no b hb
    have k := cntI_set (p := fun i => (updI fr no none i).isSome) (q := fun i => (fr i).isSome) (x := no.toNat) (fun i hi => by rw [updI_other _ _ (by omega)]) 100000 (by omega)
    rw [show ((no.toNat : Nat) : Int) = no by omega, updI_same, e0] at k
    simp at k
    have := h.cnt
    omega
theorem updT_updI {β : Type} (f : Int → Option β) (x : Int) (v : β) : updT f x v = updI f x (some v) := rfl
theorem delT_updI {β : Type} (f : Int → Option β) (x : Int) : delT f x = updI f x none := rfl
end
end Go.Proofs.YtpaholkmlfaflaaGreatDoor

namespace Go.Proofs.YtpaholkmlfaflaaGreatDoor
open Go.RowKit Go.Maps Go.Joins
set_option linter.unusedVariables false
theorem updI_self {β : Type} (f : Int → β) {x : Int} {v : β} (h : f x = v) : updI f x v = f := by
  funext y
  unfold updI
  split
  · rename_i e; rw [e, h]
  · rfl
section
variable {w w' : World} {pb mb room n b K : Nat} {clock c' u' no : Int} {at_ : Int → Option Nat} {us : Int → Int} {fr fr' : Hand} {s : ByteArray} {d : Bool} {u : Int} {F : List Nat}
theorem touch_raw (hp : w.rowIs pb 132 3 (poolF room clock mb)) (hf : w.rowIs b 152 4 (frF s d u)) (hne : b ≠ pb) (h0 : 0 ≤ clock) (h1 : clock ≤ 4611686018427387904) :
    Calls Tryz.prog 101 #[.pointer (some ⟨pb, 0, none⟩), .pointer (some ⟨b, 0, none⟩)] w fun e w' => e = .returned (.tuple #[]) ∧ w' = (w.setCell ⟨pb, 1, none⟩ (.int .i64 (clock + 1))).setCell ⟨b, 3, none⟩ (.int .i64 (clock + 1)) := by
  have c1 : w.cell? ⟨pb, 1, none⟩ = some (.int .i64 clock) := World.rowIs.cell hp (i := 1) (by decide)
  have f1 := World.rowIs.frozen hp 1
  have f3 := World.rowIs.frozen hf 3
  have c3 : w.cell? ⟨b, 3, none⟩ = some (.int .i64 u) := World.rowIs.cell hf (i := 3) (by decide)
  have hw : IntKind.i64.wrap (clock + 1) = clock + 1 := by rw [IntKind.wrap_i64]; omega
  have l1 := World.rowIs.lt hp
  have l2 := World.rowIs.lt hf
  clear hp hf
  go_enter Tryz.func101, Tryz.ntmps101
  go_wp2_with fail
  go_end0
  exact ⟨rfl, rfl⟩
theorem touch_rows (hp : w.rowIs pb 132 3 (poolF room clock mb)) (hf : w.rowIs b 152 4 (frF s d u)) (hne : b ≠ pb) (v : Int) :
    ((w.setCell ⟨pb, 1, none⟩ (.int .i64 v)).setCell ⟨b, 3, none⟩ (.int .i64 v)).rowIs pb 132 3 (poolF room v mb) ∧ ((w.setCell ⟨pb, 1, none⟩ (.int .i64 v)).setCell ⟨b, 3, none⟩ (.int .i64 v)).rowIs b 152 4 (frF s d v) ∧
      Touch [pb, b] w ((w.setCell ⟨pb, 1, none⟩ (.int .i64 v)).setCell ⟨b, 3, none⟩ (.int .i64 v)) := by
  have t1 : Touch [pb] w (w.setCell ⟨pb, 1, none⟩ (.int .i64 v)) := (Touch.refl _ _).setCell (.inl (by simp)) _
  have t2 : Touch [b] (w.setCell ⟨pb, 1, none⟩ (.int .i64 v)) ((w.setCell ⟨pb, 1, none⟩ (.int .i64 v)).setCell ⟨b, 3, none⟩ (.int .i64 v)) := (Touch.refl _ _).setCell (.inl (by simp)) _
  have r1 := World.rowIs.congr (g := poolF room v mb) (World.rowIs.set hp 1 (.int .i64 v)) (fun i hi => by rcases i with _ | _ | _ | i <;> first | rfl | omega)
  have r2 := rowIs_touch hf t1 (by simpa using hne)
  refine ⟨rowIs_touch r1 t2 (by simpa using hne.symm), World.rowIs.congr (World.rowIs.set r2 3 (.int .i64 v)) (fun i hi => by rcases i with _ | _ | _ | _ | i <;> first | rfl | omega), ?_⟩
  exact ((Touch.refl _ _).setCell (.inl (by simp)) _).setCell (.inl (by simp)) _
theorem touch_at (h : PoolAt w pb mb room n clock at_ us fr) (hb : at_ no = some b) (h1 : clock ≤ 4611686018427387904) :
    Calls Tryz.prog 101 #[.pointer (some ⟨pb, 0, none⟩), .pointer (some ⟨b, 0, none⟩)] w fun e w' => e = .returned (.tuple #[]) ∧ PoolAt w' pb mb room n (clock + 1) at_ (updI us no (clock + 1)) fr ∧ Touch [pb, b] w w' := by
  obtain ⟨s0, d0, e0, r0, u0, u1, n1, n2⟩ := h.row no b hb
  refine (touch_raw h.cells r0 n1 h.c0 h1).mono ?_
  rintro e w1 ⟨rfl, rfl⟩
  obtain ⟨q1, q2, q3⟩ := touch_rows h.cells r0 n1 (clock + 1)
  have hc0 := h.c0
  have := h.change hb q3 q1 q2 (by omega) (Int.le_refl _) (by omega)
  rw [updI_self fr e0] at this
  exact ⟨rfl, this, q3⟩
/-- What becomes of a pool whose blocks are F, said of its parts. -/
theorem PoolGo.of_at {n' : Nat} {at' : Int → Option Nat} {us' : Int → Int} (h : PoolAt w' pb mb room n' c' at' us' fr') (hk : c' ≤ K) (t : Touch F w w') (hp : pb ∈ F) (hm : mb ∈ F) (ha : ∀ i b, at' i = some b → b ∈ F) (hl : ∀ b ∈ F, b < w.heap.size) : PoolGo w w' pb F room K fr' :=
  ⟨F, ⟨mb, n', c', at', us', h, hk, hp, hm, ha, fun b hb => Nat.lt_of_lt_of_le (hl b hb) t.size⟩, t, fun b hb => .inl hb⟩

set_option maxRecDepth 100000 in
set_option maxHeartbeats 1000000 in
theorem get_no (h : PoolAt w pb mb room n clock at_ us fr) (h0 : -9223372036854775808 ≤ no) (h1 : no ≤ 9223372036854775807) (hn : at_ no = none) :
    Calls Tryz.prog 76 #[.pointer (some ⟨pb, 0, none⟩), .int .i64 no] w fun e w' => e = .returned (.tuple #[.string ⟨#[]⟩, .bool false]) ∧ w = w' := by
  have hf := find_any h no h0 h1
  rw [hn] at hf
  clear h
  go_enter Tryz.func76, Tryz.ntmps76
  go_wp2_with fail
  refine hf.mono ?_
  rintro e w1 ⟨rfl, rfl⟩
  go_wp2_with fail
  go_ret2
  exact ⟨rfl, rfl⟩
set_option maxRecDepth 100000 in
set_option maxHeartbeats 1000000 in
theorem get_yes (h : PoolAt w pb mb room n clock at_ us fr) (h0 : -9223372036854775808 ≤ no) (h1 : no ≤ 9223372036854775807) (hb : at_ no = some b) (hs : fr no = some (s, d)) (hk : clock ≤ 4611686018427387904) :
    Calls Tryz.prog 76 #[.pointer (some ⟨pb, 0, none⟩), .int .i64 no] w fun e w' => e = .returned (.tuple #[.string s, .bool true]) ∧ PoolAt w' pb mb room n (clock + 1) at_ (updI us no (clock + 1)) fr ∧ Touch [pb, b] w w' := by
  have hf := find_any h no h0 h1
  rw [hb] at hf
  have ht := touch_at h hb hk
  clear h
  go_enter Tryz.func76, Tryz.ntmps76
  go_wp2_with fail
  refine hf.mono ?_
  rintro e w1 ⟨rfl, rfl⟩
  simp only [Option.map_some, Option.getD_some, ptrV]
  go_wp2_with fail
  refine ht.mono ?_
  rintro e w1 ⟨rfl, hp, ht⟩
  obtain ⟨s0, d0, e0, r0, -⟩ := hp.row no b hb
  rw [hs] at e0
  injection e0 with e0
  injection e0 with e1 e2
  subst e1 e2
  have c0 := (frame_cell r0).1
  have HP := Lib.hid hp
  have HT := Lib.hid ht
  clear hp ht r0
  go_wp2_with fail
  go_ret2
  exact ⟨rfl, HP.out, HT.out⟩
theorem pget_any (h : IsPool w pb F room K fr) (hk : K ≤ 4000000000000000000) (h0 : -9223372036854775808 ≤ no) (h1 : no ≤ 9223372036854775807) :
    Calls Tryz.prog 76 #[.pointer (some ⟨pb, 0, none⟩), .int .i64 no] w fun e w' => e = .returned (.tuple #[.string (((fr no).map Prod.fst).getD ⟨#[]⟩), .bool (fr no).isSome]) ∧ PoolGo w w' pb F room (K + 1) fr := by
  obtain ⟨mb, n, clock, at_, us, h, hc, m1, m2, m3, m4⟩ := h
  cases hb : at_ no with
  | none =>
    refine (get_no h h0 h1 hb).mono ?_
    rintro e w' ⟨rfl, rfl⟩
    rw [h.out no hb]
    exact ⟨rfl, PoolGo.refl ⟨mb, n, clock, at_, us, h, by omega, m1, m2, m3, m4⟩⟩
  | some b =>
    obtain ⟨s, d, e0, -⟩ := h.row no b hb
    refine (get_yes h h0 h1 hb e0 (by omega)).mono ?_
    rintro e w' ⟨rfl, hp, ht⟩
    rw [e0]
    exact ⟨rfl, PoolGo.of_at hp (by omega) (ht.mono (by simp; exact ⟨.inl m1, .inl (m3 no b hb)⟩)) m1 m2 m3 m4⟩

set_option maxRecDepth 100000 in
set_option maxHeartbeats 1000000 in
theorem free_fn (hf : w.rowIs b 152 4 (frF s d u)) : Calls Tryz.prog 129 #[.pointer (some ⟨b, 0, none⟩)] w fun e w' => e = .returned (.bool (!d)) ∧ w = w' := by
  obtain ⟨c0, c1, c2, c3⟩ := frame_cell hf
  clear hf
  cases d
  · go_enter Tryz.func129, Tryz.ntmps129
    go_wp2_with fail
    go_ret
    exact ⟨rfl, rfl⟩
  · go_enter Tryz.func129, Tryz.ntmps129
    go_wp2_with fail
    go_ret
    exact ⟨rfl, rfl⟩
/-- Of what has been looked at: nothing may go, or o may. -/
def SpRel (fr : Hand) (left : Int → Bool) (o u : Int) : Prop := (u = -1 ∧ ∀ i s, left i = false → fr i ≠ some (s, false)) ∨ (0 ≤ u ∧ ∃ s, fr o = some (s, false))
end
end Go.Proofs.YtpaholkmlfaflaaGreatDoor

namespace Go.Proofs.YtpaholkmlfaflaaGreatDoor
open Go.RowKit Go.Maps Go.Joins
set_option linter.unusedVariables false
/-- What becomes of a pool that is to have room. -/
def SpPost (w : World) (pb mb room n : Nat) (clock : Int) (at_ : Int → Option Nat) (us : Int → Int) (fr : Hand) (e : Ending) (w' : World) : Prop :=
  (e = .returned (.bool true) ∧ ((n < room ∧ Below w.heap.size w w') ∨ ∃ no b s n', at_ no = some b ∧ fr no = some (s, false) ∧ n' + 1 = n ∧ PoolAt w' pb mb room n' clock (updI at_ no none) us (updI fr no none) ∧ Touch [mb] w w')) ∨
    (e = .returned (.bool false) ∧ n = room ∧ (∀ i s, fr i ≠ some (s, false)) ∧ Below w.heap.size w w')
theorem below_of_grown {w w1 w2 : World} {B r : Nat} (h : Below B w w1) (g : w1.grownBy w2 (some r)) (hr : B ≤ r) (hB : B ≤ w1.heap.size) : Below B w w2 := h.trans ((Touch.of_grown g).below hB (by simpa using hr))
theorem RngT.drewN {α β : Type} {w : World} {P : Program} {k : TypeId} {b r n cnt : Nat} {ek : α → Value} {ev : β → Value} {g : α → Option β} {left : α → Bool} (h : RngT w P k b r n ek ev g left cnt) (q : Nat) : RngT (w.drewN q) P k b r n ek ev g left cnt :=
  h.touch (F := []) ((Touch.refl _ _).drewN q) (by simp) (by simp)
section
variable {w w' : World} {pb mb room n b K : Nat} {clock c' u' no : Int} {at_ : Int → Option Nat} {us : Int → Int} {fr fr' : Hand} {s : ByteArray} {d : Bool} {u : Int} {F : List Nat}
theorem PoolAt.lt (h : PoolAt w pb mb room n clock at_ us fr) : pb < w.heap.size ∧ mb < w.heap.size ∧ ∀ i b, at_ i = some b → b < w.heap.size :=
  ⟨World.rowIs.lt h.cells, h.map.toT.lt, fun i b hb => (h.row i b hb).elim fun s x => x.elim fun d x => World.rowIs.lt x.2.1⟩
theorem PoolAt.later (h : PoolAt w pb mb room n clock at_ us fr) (hb : Below w.heap.size w w') : PoolAt w' pb mb room n clock at_ us fr := h.touch (G := []) (Touch.of_below hb) (by simp) (by simp) (by simp)
theorem SpRel.skip {left left' : Int → Bool} {o u x : Int} {s : ByteArray} (h : SpRel fr left o u) (hl : ∀ z, left' z = (left z && !decide (z = x))) (hx : fr x = some (s, true)) : SpRel fr left' o u := by
  rcases h with ⟨h1, h2⟩ | h
  · refine .inl ⟨h1, fun i t hi => ?_⟩
    rw [hl] at hi
    by_cases e : i = x
    · subst e; rw [hx]; intro e; cases e
    · simp [e] at hi; exact h2 i t hi
  · exact .inr h
theorem SpRel.stay {left left' : Int → Bool} {o u : Int} (h : SpRel fr left o u) (hu : ¬ u < 0) : SpRel fr left' o u := by
  rcases h with ⟨h1, h2⟩ | h
  · omega
  · exact .inr h
theorem inv_keyI : ∀ (key : Value) (kl : Lit), keyOf Tryz.prog 3 key = some kl → ∃ x, key = Value.int .i64 x := fun key kl hk => by
  obtain ⟨x, rfl, _⟩ := Maps.keyOf_int_inv Tryz.underlying3 hk
  exact ⟨x, rfl⟩
theorem inj_I : ∀ y z : Int, Value.int .i64 z = Value.int .i64 y → z = y := fun y z h => by injection h

/-- The loop is under way. -/
structure SpLoop (w : World) (mb n : Nat) (at_ : Int → Option Nat) (fr : Hand) (v3 v4 : Value) (wr : World) : Prop where
  ex : ∃ (o u : Int) (left : Int → Bool) (cnt : Nat), v3 = .int .i64 o ∧ v4 = .int .i64 u ∧ SpRel fr left o u ∧ RngT wr Tryz.prog 3 mb w.heap.size n (Value.int .i64) ptrV at_ left cnt ∧ Below w.heap.size w wr

set_option maxRecDepth 100000 in
set_option maxHeartbeats 2000000 in
theorem space_at (h : PoolAt w pb mb room n clock at_ us fr) :
    Calls Tryz.prog 114 #[.pointer (some ⟨pb, 0, none⟩)] w (SpPost w pb mb room n clock at_ us fr) := by
  have hle := h.le
  have hl := fun (W : World) (hb : Below w.heap.size w W) ty => MapN.len (h.later hb).map Tryz.underlying130 ty
  have HPA := fun (W : World) (hb : Below w.heap.size w W) => Lib.hid (h.later hb)
  have hl0 := fun q ty => hl (w.drewN q) (below_drewN (Below.refl _ _) q) ty
  have HDOM := Lib.hid h.dom
  have HOUT := Lib.hid h.out
  have HROW := Lib.hid h.row
  obtain ⟨c0, c1, c2⟩ := h.cell
  by_cases hn : n < room
  · have q1 : (n : Int) < room := by omega
    clear h hl
    go_enter Tryz.func114, Tryz.ntmps114
    go_wp2_with fail
    go_quiet (fail)
    go_wp2_with fail
    go_ret
    exact .inl ⟨rfl, .inl ⟨hn, below_drewN (Below.refl _ _) _⟩⟩
  have q1 : ¬ (n : Int) < room := by omega
  have hlt := h.lt
  have HLT := Lib.hid hlt
  clear h hl hlt
  go_enter Tryz.func114, Tryz.ntmps114
  go_wp2_with fail
  go_quiet (fail)
  go_wp2_with (at_range; refine wpList_range_T _ rfl _ 130 rfl 3 150 Tryz.keyIntP Tryz.underlying130 mb n (Value.int .i64) ptrV at_ rfl (HPA _ (below_drewN (Below.refl _ _) _)).out.map.toT ?_; intro w5 cnt hrg hg5 hs5)
  have hb5 : Below w.heap.size w w5 := (below_drewN (Below.refl w.heap.size w) _).trans ((Touch.of_grown hg5).below (Nat.le_refl _) (by simp))
  have HR : Hid (RngT w5 Tryz.prog 3 mb w.heap.size n (Value.int .i64) ptrV at_ (fun x => (at_ x).isSome) cnt) := Lib.hid hrg
  have HB := Lib.hid hb5
  clear hrg hg5 hs5 hb5 c0 c1 c2 hl0
  simp only [show ∀ q, (w.drewN q).heap.size = w.heap.size from fun _ => rfl]
  go_frame
  go_loopw [3, 4, 6, 7] (fun v3 v4 v6 v7 wr => SpLoop w mb n at_ fr v3 v4 wr) (fun _ _ _ _ wr => wr.rangeLeft mb w.heap.size)
  case atStart =>
    refine ⟨⟨0, -1, _, _, rfl, rfl, .inl ⟨rfl, fun i s hl => ?_⟩, HR.out, HB.out⟩⟩
    rw [HOUT.out i (by simpa using hl)]
    intro e; cases e
  case round =>
    obtain ⟨⟨o, u, left, cnt, rfl, rfl, hsp, hrg, hb⟩⟩ := hrel
    have HRG := Lib.hid hrg
    have HBW := Lib.hid hb
    have HSP := Lib.hid hsp
    clear hrg hb hsp HR HB
    go_wp2_with (at_next; refine wpList_next_T _ rfl _ rfl 3 Tryz.keyIntP mb w.heap.size n (Value.int .i64) ptrV at_ left cnt inv_keyI inj_I rfl HRG.out ?done ?more)
    case done =>
      intro hall
      have HNO : Hid (∀ i s, left i = false ∨ fr i ≠ some (s, false)) := Lib.hid (fun i s => by
        cases ha : at_ i with
        | none => exact .inr (by rw [HOUT.out i ha]; intro e; cases e)
        | some b => exact .inl (hall i _ (keyP (by have := HDOM.out i b ha; omega) (by have := HDOM.out i b ha; omega))))
      rcases HSP.out with ⟨rfl, h2⟩ | ⟨h1, s, hs⟩
      · go_wp2_with fail
        go_ret
        refine .inr ⟨rfl, by omega, fun i s => ?_, HBW.out⟩
        rcases HNO.out i s with h3 | h3
        · exact h2 i s h3
        · exact h3
      · have q2 : ¬ u < 0 := by omega
        obtain ⟨b, hb⟩ : ∃ b, at_ o = some b := by
          cases ha : at_ o with
          | none => rw [HOUT.out o ha] at hs; cases hs
          | some b => exact ⟨b, rfl⟩
        have hd := HDOM.out o b hb
        obtain ⟨c0, c1, c2⟩ := (HPA _ HBW.out).out.cell
        have HK := Lib.hid (keyP (no := o) (by omega) (by omega))
        go_wp2_with (at_delete; refine wpList_delete_N _ rfl _ _ 130 3 150 rfl Tryz.keyIntP Tryz.underlying130 mb n (Value.int .i64) ptrV at_ (HPA _ HBW.out).out.map rfl o _ rfl HK.out (inj_I o) ?_; intro w7 n7 hm7 hn7 ht7)
        rw [hb] at hn7
        have HD := Lib.hid ((HPA _ HBW.out).out.del hb ht7 hm7 (by simpa using hn7))
        have HT := Lib.hid ((Touch.of_below (F := [mb]) HBW.out).trans ht7 (fun b hb => .inl hb))
        clear hm7 ht7 c0 c1 c2
        go_wp2_with fail
        go_ret
        exact .inl ⟨rfl, .inr ⟨o, b, s, n7, hb, hs, by simpa using hn7, HD.out, HT.out⟩⟩
    case more =>
      intro x b l w' cnt' hkey hlx hgx hrg' hlt' hgr hsz hen
      have hb' := below_of_grown HBW.out hgr (Nat.le_refl _) HBW.out.size
      obtain ⟨s, d, e0, r0, u0, u1, -⟩ := (HPA _ hb').out.row x b hgx
      have hff := free_fn r0
      obtain ⟨f0, f1, f2, f3⟩ := frame_cell r0
      have HRG' := Lib.hid hrg'
      have HB' := Lib.hid hb'
      have HME := Lib.hid (show cnt' < wr.rangeLeft mb w.heap.size by rw [HRG.out.left_eq]; exact hlt')
      clear hrg' hb' hgr hkey hlt' r0
      simp only [ptrV] at hen
      go_wp2_with fail
      refine hff.mono ?_
      rintro e w9 ⟨rfl, rfl⟩
      cases d
      · simp only [Bool.not_false]
        by_cases hu : u < 0
        · go_wp2_with fail
          go_quiet (fail)
          go_wp2_with fail
          go_roundw
          case rel => exact ⟨⟨x, us x, _, cnt', rfl, rfl, .inr ⟨u0, s, e0⟩, HRG'.out.drewN _, below_drewN HB'.out _⟩⟩
          case measure => exact ((HRG'.out.drewN _).left_eq).symm ▸ HME.out
        · have hu0 := hu
          by_cases hu2 : us x < u
          · go_wp2_with fail
            go_quiet (fail)
            go_wp2_with fail
            go_roundw
            case rel => exact ⟨⟨x, us x, _, cnt', rfl, rfl, .inr ⟨u0, s, e0⟩, HRG'.out.drewN _, below_drewN HB'.out _⟩⟩
            case measure => exact ((HRG'.out.drewN _).left_eq).symm ▸ HME.out
          · go_wp2_with fail
            go_roundw
            case rel => exact ⟨⟨o, u, _, cnt', rfl, rfl, HSP.out.stay (by omega), HRG'.out, HB'.out⟩⟩
            case measure => exact HRG'.out.left_eq.symm ▸ HME.out
      · simp only [Bool.not_true]
        go_wp2_with fail
        go_roundw
        case rel => exact ⟨⟨o, u, _, cnt', rfl, rfl, HSP.out.skip (fun z => rfl) e0, HRG'.out, HB'.out⟩⟩
        case measure => exact HRG'.out.left_eq.symm ▸ HME.out
end
end Go.Proofs.YtpaholkmlfaflaaGreatDoor

namespace Go.Proofs.YtpaholkmlfaflaaGreatDoor
open Go.RowKit Go.Maps Go.Joins
set_option linter.unusedVariables false
/-- How many dirty ones there are. -/
def isDirty (fr : Hand) (i : Int) : Bool := match fr i with
  | some (_, d) => d
  | none => false
def cntDirty (fr : Hand) : Nat := cntI (isDirty fr) 100000
/-- Some clean ones may have gone. -/
def Fewer (fr fr' : Hand) : Prop := ∀ i, fr' i = fr i ∨ (fr' i = none ∧ ∃ s, fr i = some (s, false))
theorem Fewer.refl (fr : Hand) : Fewer fr fr := fun i => .inl rfl
section
variable {w w' : World} {pb mb room n b K : Nat} {clock c' u' no : Int} {at_ at' : Int → Option Nat} {us us' : Int → Int} {fr fr' : Hand} {s : ByteArray} {d : Bool} {u : Int} {F : List Nat}
theorem PoolAt.dirty_le (h : PoolAt w pb mb room n clock at_ us fr) : cntDirty fr ≤ n := by
  rw [h.cnt]
  exact cntI_le (fun i hi => by unfold isDirty at hi; cases hf : fr i <;> rw [hf] at hi <;> simp at hi ⊢) _
theorem PoolAt.dirty_eq (h : PoolAt w pb mb room n clock at_ us fr) (hno : ∀ i s, fr i ≠ some (s, false)) : cntDirty fr = n := by
  rw [h.cnt]
  refine cntI_congr _ (fun i _ => ?_)
  unfold isDirty
  cases hf : fr i with
  | none => rfl
  | some x =>
    obtain ⟨s, d⟩ := x
    cases d
    · exact absurd hf (hno i s)
    · rfl
theorem PoolAt.dirty_lt (h : PoolAt w pb mb room n clock at_ us fr) (hb : at_ no = some b) (hs : fr no = some (s, false)) : cntDirty fr < n := by
  have hd := h.dom no b hb
  rw [h.cnt]
  refine cntI_lt (x := no.toNat) (fun i hi => by unfold isDirty at hi; cases hf : fr i <;> rw [hf] at hi <;> simp at hi ⊢) ?_ ?_ _ (by omega)
  · rw [show ((no.toNat : Nat) : Int) = no by omega]; unfold isDirty; rw [hs]
  · rw [show ((no.toNat : Nat) : Int) = no by omega, hs]; rfl
/-- space, said of the pool's numbers. -/
theorem space_any (h : PoolAt w pb mb room n clock at_ us fr) :
    Calls Tryz.prog 114 #[.pointer (some ⟨pb, 0, none⟩)] w fun e w' => e = .returned (.bool (decide (cntDirty fr < room))) ∧
      ∃ n' at' fr', PoolAt w' pb mb room n' clock at' us fr' ∧ (cntDirty fr < room → n' < room) ∧ Fewer fr fr' ∧ (∀ i b, at' i = some b → at_ i = some b) ∧ (∀ i, at_ i = none → at' i = none) ∧ (¬ cntDirty fr < room → fr' = fr) ∧ Touch [mb] w w' := by
  refine (space_at h).mono ?_
  rintro e w' (⟨rfl, ⟨hn, hb⟩ | ⟨no, b, s, n', hb, hs, hn, hp, ht⟩⟩ | ⟨rfl, hn, hno, hb⟩)
  · have := h.dirty_le
    exact ⟨by rw [decide_eq_true (by omega)], n, at_, fr, h.later hb, fun _ => hn, Fewer.refl _, fun i b h => h, fun i h => h, fun _ => rfl, Touch.of_below hb⟩
  · have h1 := h.dirty_lt hb hs
    have h2 := h.le
    refine ⟨by rw [decide_eq_true (by omega)], n', _, _, hp, fun _ => by omega, fun i => ?_, fun i b' hb' => ?_, fun i hi => ?_, fun h => absurd (show cntDirty fr < room by omega) h, ht⟩
    · by_cases e : i = no
      · subst e; rw [updI_same]; exact .inr ⟨rfl, s, hs⟩
      · rw [updI_other _ _ e]; exact .inl rfl
    · by_cases e : i = no
      · subst e; rw [updI_same] at hb'; cases hb'
      · rwa [updI_other _ _ e] at hb'
    · by_cases e : i = no
      · subst e; rw [updI_same]
      · rw [updI_other _ _ e]; exact hi
  · have h1 := h.dirty_eq hno
    exact ⟨by rw [decide_eq_false (by omega)], n, at_, fr, h.later hb, fun hlt => by omega, Fewer.refl _, fun i b h => h, fun i h => h, fun _ => rfl, Touch.of_below hb⟩

/-- What Put makes of a pool in which there is no such frame. -/
def PutPost (w : World) (pb mb room : Nat) (clock : Int) (at_ : Int → Option Nat) (fr : Hand) (no : Int) (s : ByteArray) (e : Ending) (w' : World) : Prop :=
  e = .returned (.int .i64 (if cntDirty fr < room then 0 else 8)) ∧ ∃ n' c' at' us' fr' , PoolAt w' pb mb room n' c' at' us' fr' ∧ c' ≤ clock + 1 ∧ Touch [pb, mb] w w' ∧ (∀ i b, at' i = some b → at_ i = some b ∨ w.heap.size ≤ b) ∧
    ((cntDirty fr < room ∧ ∃ fr1, Fewer fr fr1 ∧ fr' = updI fr1 no (some (s, false))) ∨ (¬ cntDirty fr < room ∧ fr' = fr))

set_option maxRecDepth 100000 in
set_option maxHeartbeats 2000000 in
theorem put_new (h : PoolAt w pb mb room n clock at_ us fr) (hk : clock ≤ 4611686018427387904) (h0 : 0 ≤ no) (h1 : no < 100000) (hno : at_ no = none) :
    Calls Tryz.prog 94 #[.pointer (some ⟨pb, 0, none⟩), .int .i64 no, .string s] w (PutPost w pb mb room clock at_ fr no s) := by
  have hf := find_any h no (by omega) (by omega)
  rw [hno] at hf
  have hsp := space_any h
  have HN := Lib.hid h.out
  have hc0 := h.c0
  have hdl := h.dirty_le
  have hd2 := h.le
  clear h
  go_enter Tryz.func94, Tryz.ntmps94
  go_wp2_with fail
  refine hf.mono ?_
  rintro e w1 ⟨rfl, rfl⟩
  simp only [Option.map_none, Option.getD_none]
  go_wp2_with fail
  refine hsp.mono ?_
  rintro e w1 ⟨rfl, n', at', fr', hp, hn', hfw, hat, hat2, hsame, ht⟩
  have HP := Lib.hid hp
  have HT := Lib.hid ht
  clear hp ht
  by_cases hlt : cntDirty fr < room
  · rw [decide_eq_true hlt]
    have hlt' := HP.out.lt
    have hp2 := HP.out.later (below_alloc (o := .cells #[.string s, .bool false, .int .i64 0, .int .i64 0] 152) (Below.refl _ _))
    have hf2 : (w1.alloc (.cells #[.string s, .bool false, .int .i64 0, .int .i64 0] 152)).rowIs w1.heap.size 152 4 (frF s false 0) := World.rowIs_alloc w1 _ _ _ (fun i hi => by rcases i with _ | _ | _ | _ | i <;> first | rfl | (simp at hi; omega))
    have hne : w1.heap.size ≠ pb := by omega
    have HTR := Lib.hid (touch_raw hp2.cells hf2 hne hc0 hk)
    have HT2 := Lib.hid (touch_rows hp2.cells hf2 hne (clock + 1))
    have HM2 := Lib.hid hp2.map
    have HK := Lib.hid (keyP (no := no) (by omega) (by omega))
    have hno' := hat2 no hno
    have hcap : n' < maxLen := by have := hn' hlt; have := HP.out.room2; unfold maxLen; omega
    clear hp2 hf2
    go_wp2_with fail
    refine HTR.out.mono ?_
    rintro e w5 ⟨rfl, hw5⟩
    obtain ⟨q1, q2, q3⟩ := HT2.out
    rw [← hw5] at q1 q2 q3
    have HQ1 := Lib.hid q1
    have HQ2 := Lib.hid q2
    have HM3 := Lib.hid (HM2.out.touch q3 (by simp; exact ⟨fun e => HP.out.ne e.symm, by omega⟩))
    have HQ3 := Lib.hid (((Touch.refl [pb, mb] w1).alloc (.cells #[.string s, .bool false, .int .i64 0, .int .i64 0] 152)).trans q3 (fun x hx => by simp at hx; rcases hx with rfl | rfl <;> simp))
    have hc2 : w5.cell? ⟨pb, 2, none⟩ = some (.map (some mb)) := World.rowIs.cell q1 (i := 2) (by decide)
    clear hw5 q1 q2 q3
    go_wp2_with (at_mapUpdate; refine wpList_update_M _ rfl _ _ _ 130 rfl 3 150 Tryz.keyIntP Tryz.underlying130 mb n' (Value.int .i64) ptrV at' HM3.out rfl hcap no _ rfl HK.out (inj_I no) w1.heap.size (by rfl) ?_; intro w7 n7 hm7 hn7 ht7)
    rw [hno'] at hn7
    have hn8 : n7 = n' + 1 := by simpa using hn7
    subst hn8
    have HD := Lib.hid (HP.out.add (no := no) (s' := s) (d' := false) (u' := clock + 1) (c' := clock + 1) hno' (HQ3.out.trans ht7 (fun x hx => by simp at hx; subst hx; simp)) (Nat.le_refl _) hm7 (rowIs_touch HQ1.out ht7 (by simp; exact HP.out.ne)) (rowIs_touch HQ2.out ht7 (by simp; omega)) (by omega) (Int.le_refl _) (by omega) (by have := hn' hlt; omega) h0 h1)
    have HTT := Lib.hid (((HT.out.mono (G := [pb, mb]) (by simp)).trans HQ3.out (fun x hx => .inl hx)).trans ht7 (fun x hx => by simp at hx; subst hx; simp))
    clear hm7 ht7 hc2
    go_wp2_with fail
    go_ret
    refine ⟨by rw [if_pos hlt]; rfl, n' + 1, clock + 1, _, _, _, HD.out, by omega, HTT.out, fun i b hb => ?_, .inl ⟨hlt, fr', hfw, rfl⟩⟩
    by_cases e : i = no
    · subst e
      rw [updI_same] at hb
      injection hb with hb
      exact .inr (by have := HT.out.size; omega)
    · rw [updI_other _ _ e] at hb
      exact .inl (hat i b hb)
  · rw [decide_eq_false hlt]
    go_wp2_with fail
    go_ret
    refine ⟨by rw [if_neg hlt]; rfl, n', clock, at', us, fr', HP.out, by omega, HT.out.mono (by simp), fun i b h => .inl (hat i b h), .inr ⟨hlt, hsame hlt⟩⟩
end
end Go.Proofs.YtpaholkmlfaflaaGreatDoor

namespace Go.Proofs.YtpaholkmlfaflaaGreatDoor
open Go.RowKit Go.Maps Go.Joins
set_option linter.unusedVariables false
theorem updI_updI {β : Type} (f : Int → β) (x : Int) (u v : β) : updI (updI f x u) x v = updI f x v := by
  funext y
  unfold updI
  split <;> rfl
section
variable {w w' : World} {pb mb room n b K : Nat} {clock c' u' no : Int} {at_ at' : Int → Option Nat} {us us' : Int → Int} {fr fr' : Hand} {s : ByteArray} {d : Bool} {u : Int} {F : List Nat}
set_option maxRecDepth 100000 in
set_option maxHeartbeats 2000000 in
theorem put_there (h : PoolAt w pb mb room n clock at_ us fr) (h0 : 0 ≤ no) (h1 : no < 100000) (hb : at_ no = some b) :
    Calls Tryz.prog 94 #[.pointer (some ⟨pb, 0, none⟩), .int .i64 no, .string s] w fun e w' => e = .returned (.int .i64 7) ∧ w = w' := by
  have hf := find_any h no (by omega) (by omega)
  rw [hb] at hf
  clear h
  go_enter Tryz.func94, Tryz.ntmps94
  go_wp2_with fail
  refine hf.mono ?_
  rintro e w1 ⟨rfl, rfl⟩
  simp only [Option.map_some, Option.getD_some, ptrV]
  go_wp2_with fail
  go_ret
  exact ⟨rfl, rfl⟩
/-- Put at any pool. -/
theorem pput_any (h : IsPool w pb F room K fr) (hk : K ≤ 4000000000000000000) (h0 : 0 ≤ no) (h1 : no < 100000) (s : ByteArray) :
    Calls Tryz.prog 94 #[.pointer (some ⟨pb, 0, none⟩), .int .i64 no, .string s] w fun e w' => ∃ (r : Int) (fr' : Hand), e = .returned (.int .i64 r) ∧ PoolGo w w' pb F room (K + 1) fr' ∧
      (fr' = fr ∨ (fr no = none ∧ ∃ fr1, Fewer fr fr1 ∧ fr' = updI fr1 no (some (s, false)))) := by
  obtain ⟨mb, n, clock, at_, us, h, hc, m1, m2, m3, m4⟩ := h
  cases hb : at_ no with
  | some b =>
    refine (put_there h h0 h1 hb).mono ?_
    rintro e w' ⟨rfl, rfl⟩
    exact ⟨7, fr, rfl, PoolGo.refl ⟨mb, n, clock, at_, us, h, by omega, m1, m2, m3, m4⟩, .inl rfl⟩
  | none =>
    refine (put_new h (by omega) h0 h1 hb).mono ?_
    rintro e w' ⟨rfl, n', c', at', us', fr', hp, hc', ht, hat, hr⟩
    have hlt := hp.lt
    refine ⟨_, fr', rfl, ⟨F ++ (List.range w'.heap.size).filter (fun b => decide (w.heap.size ≤ b)), ⟨mb, n', c', at', us', hp, by omega, by simp [m1], by simp [m2], fun i b hb => ?_, fun b hb => ?_⟩, ht.mono (by simp; exact ⟨.inl m1, .inl m2⟩), fun b hb => ?_⟩, ?_⟩
    · rcases hat i b hb with h' | h'
      · simp [m3 i b h']
      · simp [h', hlt.2.2 i b hb]
    · rcases List.mem_append.1 hb with h' | h'
      · exact Nat.lt_of_lt_of_le (m4 b h') ht.size
      · simp at h'; exact h'.1
    · rcases List.mem_append.1 hb with h' | h'
      · exact .inl h'
      · simp at h'; exact .inr h'.2
    · rcases hr with ⟨_, fr1, h1, h2⟩ | ⟨_, h2⟩
      · exact .inr ⟨h.out no hb, fr1, h1, h2⟩
      · exact .inl h2

/-- What Set leaves. -/
def SetPost (w : World) (pb mb room : Nat) (F : List Nat) (clock : Int) (at_ : Int → Option Nat) (fr : Hand) (no : Int) (s : ByteArray) (e : Ending) (w' : World) : Prop :=
  ∃ n' c' at' us' fr', PoolAt w' pb mb room n' c' at' us' fr' ∧ c' ≤ clock + 2 ∧ Touch F w w' ∧ (∀ i b, at' i = some b → at_ i = some b ∨ w.heap.size ≤ b) ∧
    ((e = .returned (.int .i64 0) ∧ ((fr no).isSome = true ∨ cntDirty fr < room) ∧ ∃ fr1, Fewer fr fr1 ∧ fr' = updI fr1 no (some (s, true))) ∨ (e = .returned (.int .i64 8) ∧ fr no = none ∧ ¬ cntDirty fr < room ∧ fr' = fr))
/-- A frame's text is written. -/
theorem set_rows {w : World} {pb mb room b : Nat} {clock : Int} {s s' : ByteArray} {d : Bool} {u : Int} (hp : w.rowIs pb 132 3 (poolF room clock mb)) (hf : w.rowIs b 152 4 (frF s d u)) (hne : b ≠ pb) :
    ((w.setCell ⟨b, 0, none⟩ (.string s')).setCell ⟨b, 1, none⟩ (.bool true)).rowIs pb 132 3 (poolF room clock mb) ∧ ((w.setCell ⟨b, 0, none⟩ (.string s')).setCell ⟨b, 1, none⟩ (.bool true)).rowIs b 152 4 (frF s' true u) ∧
      Touch [b] w ((w.setCell ⟨b, 0, none⟩ (.string s')).setCell ⟨b, 1, none⟩ (.bool true)) := by
  have t : Touch [b] w ((w.setCell ⟨b, 0, none⟩ (.string s')).setCell ⟨b, 1, none⟩ (.bool true)) := ((Touch.refl _ _).setCell (.inl (by simp)) _).setCell (.inl (by simp)) _
  refine ⟨rowIs_touch hp t (by simpa using hne.symm), World.rowIs.congr (World.rowIs.set (World.rowIs.set hf 0 (.string s')) 1 (.bool true)) (fun i hi => by rcases i with _ | _ | _ | _ | i <;> first | rfl | omega), t⟩

set_option maxRecDepth 100000 in
set_option maxHeartbeats 2000000 in
theorem set_at (h : PoolAt w pb mb room n clock at_ us fr) (hk : clock ≤ 4400000000000000000) (h0 : 0 ≤ no) (h1 : no < 100000) (m1 : pb ∈ F) (m2 : mb ∈ F) (m3 : ∀ i b, at_ i = some b → b ∈ F) (s : ByteArray) :
    Calls Tryz.prog 98 #[.pointer (some ⟨pb, 0, none⟩), .int .i64 no, .string s] w (SetPost w pb mb room F clock at_ fr no s) := by
  have hf := find_any h no (by omega) (by omega)
  cases hb : at_ no with
  | some b =>
    rw [hb] at hf
    have H := Lib.hid h
    clear h
    go_enter Tryz.func98, Tryz.ntmps98
    go_wp2_with fail
    refine hf.mono ?_
    rintro e w1 ⟨rfl, rfl⟩
    simp only [Option.map_some, Option.getD_some, ptrV]
    obtain ⟨s0, d0, e0, r0, u0, u1, n1, n2⟩ := H.out.row no b hb
    have hs2 := set_rows (s' := s) H.out.cells r0 n1
    have HT1 := Lib.hid (touch_raw hs2.1 hs2.2.1 n1 H.out.c0 (by omega))
    have HT2 := Lib.hid (touch_rows hs2.1 hs2.2.1 n1 (clock + 1))
    have HS2 := Lib.hid hs2.2.2
    have l1 := World.rowIs.lt r0
    have f0 := World.rowIs.frozen r0 0
    have f1 := World.rowIs.frozen r0 1
    obtain ⟨c0, c1, c2, c3⟩ := frame_cell r0
    clear hs2 r0
    go_wp2_with fail
    refine HT1.out.mono ?_
    rintro e w5 ⟨rfl, hw5⟩
    obtain ⟨q1, q2, q3⟩ := HT2.out
    rw [← hw5] at q1 q2 q3
    have ht5 := (HS2.out.mono (G := [pb, b]) (by simp)).trans q3 (fun x hx => .inl hx)
    have hc0 := H.out.c0
    have HC := Lib.hid (H.out.change (no := no) hb ht5 q1 q2 (by omega) (Int.le_refl _) (by omega))
    have HT5 := Lib.hid ht5
    clear hw5 q1 q2 q3 ht5 l1 f0 f1 c0 c1 c2 c3
    go_wp2_with fail
    go_ret
    exact ⟨n, clock + 1, at_, _, _, HC.out, by omega, HT5.out.mono (by simp; exact ⟨.inl m1, .inl (m3 no b hb)⟩), fun i b h => .inl h, .inl ⟨rfl, .inl (by rw [e0]; rfl), fr, Fewer.refl _, rfl⟩⟩
  | none =>
    rw [hb] at hf
    have hfr := h.out no hb
    have HPN := Lib.hid (put_new (s := s) h (by omega) h0 h1 hb)
    have hl0 := h.lt
    clear h
    go_enter Tryz.func98, Tryz.ntmps98
    go_wp2_with fail
    refine hf.mono ?_
    rintro e w1 ⟨rfl, rfl⟩
    simp only [Option.map_none, Option.getD_none]
    go_wp2_with fail
    refine HPN.out.mono ?_
    rintro e w1 ⟨rfl, n', c1', at', us', fr', hp, hc', ht, hat, hr⟩
    have HP := Lib.hid hp
    have HT := Lib.hid ht
    clear hp ht hf hb HPN
    rcases hr with ⟨hlt, fr1, hfw, rfl⟩ | ⟨hlt, rfl⟩
    · rw [if_pos hlt]
      obtain ⟨b, hb⟩ : ∃ b, at' no = some b := by
        cases ha : at' no with
        | none => have := HP.out.out no ha; rw [updI_same] at this; cases this
        | some b => exact ⟨b, rfl⟩
      have HF2 := Lib.hid (find_any HP.out no (by omega) (by omega))
      rw [hb] at HF2
      have hbF := hat no b hb
      go_wp2_with fail
      refine HF2.out.mono ?_
      rintro e w1 ⟨rfl, rfl⟩
      simp only [Option.map_some, Option.getD_some, ptrV]
      obtain ⟨s0, d0, e0, r0, u0, u1, n1, n2⟩ := HP.out.row no b hb
      have hs2 := set_rows (s' := s) HP.out.cells r0 n1
      have HT1 := Lib.hid (touch_raw hs2.1 hs2.2.1 n1 HP.out.c0 (by omega))
      have HT2 := Lib.hid (touch_rows hs2.1 hs2.2.1 n1 (c1' + 1))
      have HS2 := Lib.hid hs2.2.2
      have l1 := World.rowIs.lt r0
      have f0 := World.rowIs.frozen r0 0
      have f1 := World.rowIs.frozen r0 1
      obtain ⟨c0, c1, c2, c3⟩ := frame_cell r0
      clear hs2 r0
      go_wp2_with fail
      refine HT1.out.mono ?_
      rintro e w5 ⟨rfl, hw5⟩
      obtain ⟨q1, q2, q3⟩ := HT2.out
      rw [← hw5] at q1 q2 q3
      have ht5 := (HS2.out.mono (G := [pb, b]) (by simp)).trans q3 (fun x hx => .inl hx)
      have hc0 := HP.out.c0
      have HC := Lib.hid (HP.out.change (no := no) hb ht5 q1 q2 (by omega) (Int.le_refl _) (by omega))
      have HT5 := Lib.hid ht5
      clear hw5 q1 q2 q3 ht5 l1 f0 f1 c0 c1 c2 c3
      go_wp2_with fail
      go_ret
      rw [updI_updI] at HC
      refine ⟨n', c1' + 1, at', _, _, HC.out, by omega, (HT.out.mono (G := F) (by simp; exact ⟨.inl m1, .inl m2⟩)).trans HT5.out (fun x hx => ?_), hat, .inl ⟨rfl, .inr hlt, fr1, hfw, rfl⟩⟩
      simp at hx
      rcases hx with rfl | rfl
      · exact .inl m1
      · exact hbF.elim (fun h => .inl (m3 no x h)) .inr
    · rw [if_neg hlt]
      go_wp2_with fail
      go_ret
      exact ⟨n', c1', at', us', _, HP.out, by omega, HT.out.mono (by simp; exact ⟨.inl m1, .inl m2⟩), hat, .inr ⟨rfl, hfr, hlt, rfl⟩⟩
/-- Set at any pool. -/
theorem pset_any (h : IsPool w pb F room K fr) (hk : K ≤ 4000000000000000000) (h0 : 0 ≤ no) (h1 : no < 100000) (s : ByteArray) :
    Calls Tryz.prog 98 #[.pointer (some ⟨pb, 0, none⟩), .int .i64 no, .string s] w fun e w' => ∃ fr', PoolGo w w' pb F room (K + 2) fr' ∧
      ((e = .returned (.int .i64 0) ∧ ((fr no).isSome = true ∨ cntDirty fr < room) ∧ ∃ fr1, Fewer fr fr1 ∧ fr' = updI fr1 no (some (s, true))) ∨ (e = .returned (.int .i64 8) ∧ fr no = none ∧ ¬ cntDirty fr < room ∧ fr' = fr)) := by
  obtain ⟨mb, n, clock, at_, us, h, hc, m1, m2, m3, m4⟩ := h
  refine (set_at h (by omega) h0 h1 m1 m2 m3 s).mono ?_
  rintro e w' ⟨n', c', at', us', fr', hp, hc', ht, hat, hr⟩
  have hlt := hp.lt
  refine ⟨fr', ⟨F ++ (List.range w'.heap.size).filter (fun b => decide (w.heap.size ≤ b)), ⟨mb, n', c', at', us', hp, by omega, by simp [m1], by simp [m2], fun i b hb => ?_, fun b hb => ?_⟩, ht, fun b hb => ?_⟩, hr⟩
  · rcases hat i b hb with h' | h'
    · simp [m3 i b h']
    · simp [h', hlt.2.2 i b hb]
  · rcases List.mem_append.1 hb with h' | h'
    · exact Nat.lt_of_lt_of_le (m4 b h') ht.size
    · simp at h'; exact h'.1
  · rcases List.mem_append.1 hb with h' | h'
    · exact .inl h'
    · simp at h'; exact .inr h'.2
end
end Go.Proofs.YtpaholkmlfaflaaGreatDoor

namespace Go.Proofs.YtpaholkmlfaflaaGreatDoor
open Go.RowKit Go.Maps Go.Joins
set_option linter.unusedVariables false
theorem Tryz.infoIntP : (Tryz.prog.info? 3).map (fun i => (i.zero, i.size, i.bytes)) = some (some (.int .i64 0), 1, 8) := by kernel_rfl
/-- The numbers below N of which p tells, in order. -/
def keysI (p : Int → Bool) (N : Nat) : List Int := ((List.range N).filter fun i : Nat => p i).map Int.ofNat
theorem keysI_length (p : Int → Bool) (N : Nat) : (keysI p N).length = cntI p N := by simp [keysI, cntI]
theorem keysI_mem (p : Int → Bool) (N : Nat) (x : Int) : x ∈ keysI p N ↔ 0 ≤ x ∧ x < N ∧ p x = true := by
  unfold keysI
  simp only [List.mem_map, List.mem_filter, List.mem_range]
  constructor
  · rintro ⟨a, ⟨h1, h2⟩, rfl⟩
    exact ⟨by simp, by simpa using h1, h2⟩
  · rintro ⟨h1, h2, h3⟩
    refine ⟨x.toNat, ⟨by omega, ?_⟩, by simp; omega⟩
    rw [show ((x.toNat : Nat) : Int) = x by omega]
    exact h3
theorem keysI_sorted (p : Int → Bool) (N : Nat) : (keysI p N).Pairwise (· < ·) := by
  unfold keysI
  rw [List.pairwise_map]
  refine (List.Pairwise.filter _ List.pairwise_lt_range).imp (fun h => ?_)
  simpa using h
/-- Any order of them, sorted. -/
theorem keysI_of_perm {p : Int → Bool} {N : Nat} {l : List Int} (hn : l.Nodup) (hm : ∀ x, x ∈ l ↔ x ∈ keysI p N) : l.mergeSort (fun x y => decide (x ≤ y)) = keysI p N := by
  have h1 : (keysI p N).Nodup := (keysI_sorted p N).imp (fun h e => by omega)
  have hp : l.Perm (keysI p N) := (List.perm_ext_iff_of_nodup hn h1).2 hm
  refine List.Perm.eq_of_pairwise (le := fun a b => a ≤ b) (fun a b _ _ h1 h2 => Int.le_antisymm h1 h2) ?_ ((keysI_sorted p N).imp (fun h => by omega)) ((List.mergeSort_perm l _).trans hp)
  have := List.pairwise_mergeSort (le := fun x y : Int => decide (x ≤ y)) (fun a b c h1 h2 => by simp at *; omega) (fun a b => by simp; omega) l
  exact this.imp (fun h => by simpa using h)
/-- Under way: these have been looked at and are dirty. -/
structure DiLoop (w : World) (mb n : Nat) (at_ : Int → Option Nat) (fr : Hand) (v : Value) (wr : World) : Prop where
  ex : ∃ (l : List Int) (left : Int → Bool) (cnt : Nat), l.Nodup ∧ (∀ x, x ∈ l ↔ ((at_ x).isSome = true ∧ left x = false ∧ isDirty fr x = true)) ∧ wr.ownsRow (w.heap.size + 1) 3 1 v l.length (l.map (Value.int .i64)) ∧
    RngT wr Tryz.prog 3 mb w.heap.size n (Value.int .i64) ptrV at_ left cnt ∧ Below w.heap.size w wr ∧ w.heap.size + 1 ≤ wr.heap.size
section
variable {w w' : World} {pb mb room n b K : Nat} {clock c' u' no : Int} {at_ at' : Int → Option Nat} {us us' : Int → Int} {fr fr' : Hand} {s : ByteArray} {d : Bool} {u : Int} {F : List Nat}
theorem PoolAt.dirty_dom (h : PoolAt w pb mb room n clock at_ us fr) {x : Int} (hx : isDirty fr x = true) : (at_ x).isSome = true ∧ 0 ≤ x ∧ x < 100000 := by
  cases ha : at_ x with
  | none => unfold isDirty at hx; rw [h.out x ha] at hx; cases hx
  | some b => exact ⟨rfl, h.dom x b ha⟩
theorem DiLoop.bound (h : PoolAt w pb mb room n clock at_ us fr) {l : List Int} {left : Int → Bool} (hn : l.Nodup) (hm : ∀ x, x ∈ l ↔ ((at_ x).isSome = true ∧ left x = false ∧ isDirty fr x = true)) : l.length ≤ 65536 := by
  have h1 : (keysI (fun x => (at_ x).isSome && !left x && isDirty fr x) 100000).Nodup := (keysI_sorted _ _).imp (fun h e => by omega)
  have hp : l.Perm (keysI (fun x => (at_ x).isSome && !left x && isDirty fr x) 100000) := (List.perm_ext_iff_of_nodup hn h1).2 (fun x => by
    rw [hm, keysI_mem]
    constructor
    · rintro ⟨a, b, c⟩
      have := h.dirty_dom c
      exact ⟨this.2.1, this.2.2, by simp [a, b, c]⟩
    · rintro ⟨_, _, c⟩
      simp at c
      exact ⟨c.1.1, c.1.2, c.2⟩)
  have e := hp.length_eq
  rw [keysI_length] at e
  have h2 := h.dirty_le
  have h3 := h.le
  have h4 := h.room2
  have h5 : cntI (fun x => (at_ x).isSome && !left x && isDirty fr x) 100000 ≤ cntDirty fr := cntI_le (fun i hi => by simp at hi; exact hi.2) _
  omega

set_option maxRecDepth 100000 in
set_option maxHeartbeats 2000000 in
theorem dirty_at (h : PoolAt w pb mb room n clock at_ us fr) :
    Calls Tryz.prog 75 #[.pointer (some ⟨pb, 0, none⟩)] w fun e w' => ∃ v, e = .returned v ∧ w'.ownsRow (w.heap.size + 1) 3 1 v (cntDirty fr) ((keysI (isDirty fr) 100000).map (Value.int .i64)) ∧ Below w.heap.size w w' := by
  obtain ⟨i0, hi, hz0, hz1, hz2⟩ := info_parts Tryz.infoIntP
  have HPA := fun (W : World) (hb : Below w.heap.size w W) => Lib.hid (h.later hb)
  have H := Lib.hid h
  obtain ⟨c0, c1, c2⟩ := h.cell
  have HLT := Lib.hid h.lt
  clear h
  go_enter Tryz.func75, Tryz.ntmps75
  go_wp2_with (at_range; refine wpList_range_T _ rfl _ 130 rfl 3 150 Tryz.keyIntP Tryz.underlying130 mb n (Value.int .i64) ptrV at_ rfl H.out.map.toT ?_; intro w5 cnt hrg hg5 hs5)
  have hb5 : Below w.heap.size w w5 := (Touch.of_grown hg5).below (Nat.le_refl _) (by simp)
  have HR := Lib.hid hrg
  have HB := Lib.hid hb5
  have HS := Lib.hid hs5
  clear hrg hg5 hs5 hb5 c0 c1 c2
  go_frame
  go_loopw [3, 4, 5] (fun v3 v4 v5 wr => DiLoop w mb n at_ fr v3 wr) (fun _ _ _ wr => wr.rangeLeft mb w.heap.size)
  case atStart => exact ⟨⟨[], fun x => (at_ x).isSome, _, List.nodup_nil, fun x => ⟨fun h => (by cases h), fun ⟨h1, h2, _⟩ => Bool.noConfusion (h1.symm.trans h2)⟩, World.ownsRow_nil _ _ _ _, HR.out, HB.out, by have := HS.out; omega⟩⟩
  case round =>
    obtain ⟨⟨l, left, cnt, hn, hm, hrow, hrg, hb, hsz⟩⟩ := hrel
    have HRG := Lib.hid hrg
    have HBW := Lib.hid hb
    have HN := Lib.hid hn
    have HM := Lib.hid hm
    have HROW := Lib.hid hrow
    have HSZ := Lib.hid hsz
    have hbd := DiLoop.bound H.out hn hm
    clear hrg hb hn hm hrow hsz HR HB HS
    go_wp2_with (at_next; refine wpList_next_T _ rfl _ rfl 3 Tryz.keyIntP mb w.heap.size n (Value.int .i64) ptrV at_ left cnt inv_keyI inj_I rfl HRG.out ?done ?more)
    case done =>
      intro hall
      have hkeys : ∀ x, x ∈ l ↔ x ∈ keysI (isDirty fr) 100000 := fun x => by
        rw [HM.out, keysI_mem]
        constructor
        · rintro ⟨_, _, c⟩
          have := H.out.dirty_dom c
          exact ⟨this.2.1, this.2.2, c⟩
        · rintro ⟨a, b, c⟩
          have := H.out.dirty_dom c
          exact ⟨this.1, hall x _ (keyP (by omega) (by omega)), c⟩
      have hsort := keysI_of_perm HN.out hkeys
      have hlen : l.length = cntDirty fr := by
        have := congrArg List.length hsort
        rw [List.length_mergeSort, keysI_length] at this
        exact this
      have HSO := Lib.hid hsort
      have HLE := Lib.hid hlen
      clear hkeys hall hsort hlen
      rcases HROW.out.2 with ⟨hv, h0⟩ | ⟨g, cap, cur, hv, hg, hgb, h1, h2, h3, ht⟩
      · subst hv
        have hl0 : l.length = 0 := h0
        have hsn := Tryz.slices_Sort_int_none none 0
        go_wp2_with fail
        refine (hsn _).mono ?_
        rintro e w1 ⟨rfl, rfl⟩
        go_wp2_with fail
        go_ret
        refine ⟨_, rfl, ?_, HBW.out⟩
        have e1 : cntDirty fr = 0 := by have := HLE.out; omega
        have e2 : keysI (isDirty fr) 100000 = [] := List.eq_nil_of_length_eq_zero (by rw [keysI_length]; exact e1)
        rw [e1, e2]
        exact World.ownsRow_nil _ _ _ _
      · subst hv
        rw [Nat.mul_one] at ht
        have ht' : cur.toList.take l.length = l.map (Value.int .i64) := ht
        have hgl : g < wr.heap.size := (Array.getElem?_eq_some_iff.1 hgb).1
        have HSN := Lib.hid (Tryz.slices_Sort_int g 0 cap l wr (holds_of_blockI hgb ht') hgl (by omega))
        have HGB := Lib.hid hgb
        have HTK := Lib.hid ht'
        clear ht ht' hgb
        go_wp2_with fail
        refine HSN.out.mono ?_
        rintro e w1 ⟨rfl, nq, os, hw1⟩
        have HW1 := Lib.hid hw1
        clear hw1
        go_wp2_with fail
        go_ret
        refine ⟨_, rfl, ?_, ?_⟩
        · have := ownsRow_sortedI (n := nq) (os := os) (ss := l) (ts := l.mergeSort fun x y => decide (x ≤ y)) (base := w.heap.size + 1) (List.length_mergeSort l) hg HGB.out h1 h2 h3
          rw [← HW1.out, HSO.out] at this
          rw [← HLE.out]
          exact this
        · have hgr := grownBy_sortedI (n := nq) (os := os) (w := wr) (g := g) (l.mergeSort fun x y => decide (x ≤ y)).toArray
          rw [← HW1.out] at hgr
          exact below_of_grown HBW.out hgr (by omega) HBW.out.size
    case more =>
      intro x b kl w' cnt' hkey hlx hgx hrg' hlt' hgr hsz hen
      have hb' := below_of_grown HBW.out hgr (Nat.le_refl _) HBW.out.size
      obtain ⟨s, d, e0, r0, -⟩ := (HPA _ hb').out.row x b hgx
      obtain ⟨f0, f1, f2, f3⟩ := frame_cell r0
      have HRG' := Lib.hid hrg'
      have HB' := Lib.hid hb'
      have HME := Lib.hid (show cnt' < wr.rangeLeft mb w.heap.size by rw [HRG.out.left_eq]; exact hlt')
      have HROW' := Lib.hid (ownsRow_touch HROW.out (Touch.of_grown hgr) (fun q hq => by have := (HROW.out.lt q hq).1; simp; omega))
      have HSZ' := Lib.hid (show w.heap.size + 1 ≤ w'.heap.size by have := HSZ.out; omega)
      clear hrg' hb' hgr hkey hlt' r0 hsz
      simp only [ptrV] at hen
      cases d
      · go_wp2_with fail
        go_roundw
        case rel =>
          refine ⟨⟨l, _, cnt', HN.out, fun y => ?_, HROW'.out, HRG'.out, HB'.out, HSZ'.out⟩⟩
          rw [HM.out]
          by_cases e : y = x
          · subst e; unfold isDirty; rw [e0]; simp
          · simp [e]
        case measure => exact HRG'.out.left_eq.symm ▸ HME.out
      · have hcap : l.length + 1 ≤ maxLen := by unfold maxLen; omega
        go_wp2_with (at_builtin; go_loud (refine wpList_append_near _ rfl (.tmp 22) (.tmp 24) 32 rfl (w.heap.size + 1) 3 i0 (.int .i64 0) 1 8 Tryz.underlying32 hi hz0 hz1 hz2 rfl (by decide) _ l.length (l.map (Value.int .i64)) rfl (HROW'.out.alloc _) ⟨w'.heap.size, 0, none⟩ 1 1 [.int .i64 x] rfl (by decide) rfl (cell_one_new _ _ _) (by intro u hu; simp at hu; subst hu; rfl) hcap (by omega) (by have := HSZ'.out; simp; omega) ?_); intro g cap w7 hown hgr hat)
        have hb7 : Below w.heap.size w w7 := (HB'.out.alloc (HB'.out.size) _).trans ((Touch.of_grown hgr).below (by have := HB'.out.size; simp; omega) (fun q hq => by have := (HROW'.out.lt q (Option.mem_toList.1 hq)).1; omega))
        have hr7 := (HRG'.out.touch (F := []) ((Touch.refl _ _).alloc (.cells #[.int .i64 x] 3)) (by simp) (by simp)).touch (Touch.of_grown hgr) (fun hq => by have := (HROW'.out.lt _ (Option.mem_toList.1 hq)).1; have := HLT.out.2.1; omega) (fun hq => by have := (HROW'.out.lt _ (Option.mem_toList.1 hq)).1; omega)
        have HO7 := Lib.hid hown
        have HB7 := Lib.hid hb7
        have HR7 := Lib.hid hr7
        have HS7 := Lib.hid (show w.heap.size + 1 ≤ w7.heap.size by have := HSZ'.out; have := hgr.size; simp at this; omega)
        clear hown hb7 hr7 hgr hat
        go_wp2_with fail
        go_roundw
        case rel =>
          refine ⟨⟨l ++ [x], _, cnt', ?_, fun y => ?_, ?_, HR7.out, HB7.out, HS7.out⟩⟩
          · rw [List.nodup_append]
            exact ⟨HN.out, by simp, fun a ha b hb => by simp at hb; subst hb; intro e; subst e; have := (HM.out a).1 ha; rw [hlx] at this; simp at this⟩
          · rw [List.mem_append, HM.out]
            by_cases e : y = x
            · subst e; unfold isDirty; rw [e0, hgx]; simp
            · simp [e]
          · have := HO7.out
            rw [List.map_append, List.length_append]
            exact this
        case measure => exact HR7.out.left_eq.symm ▸ HME.out
end
end Go.Proofs.YtpaholkmlfaflaaGreatDoor

namespace Go.Proofs.YtpaholkmlfaflaaGreatDoor
open Go.RowKit Go.Maps Go.Joins
set_option linter.unusedVariables false
/-- Those that have been looked at are clean. -/
def cleanH (fr : Hand) (left : Int → Bool) : Hand := fun i => match fr i with
  | some (s, d) => some (s, d && left i)
  | none => none
def cleanAll (fr : Hand) : Hand := fun i => (fr i).map fun x => (x.1, false)
def dropAll (fr : Hand) : Hand := fun i => if isDirty fr i then none else fr i
structure ClLoop (w : World) (F : List Nat) (pb mb room n : Nat) (clock : Int) (at_ : Int → Option Nat) (us : Int → Int) (fr : Hand) (wr : World) : Prop where
  ex : ∃ (left : Int → Bool) (cnt : Nat), PoolAt wr pb mb room n clock at_ us (cleanH fr left) ∧ RngT wr Tryz.prog 3 mb w.heap.size n (Value.int .i64) ptrV at_ left cnt ∧ Touch F w wr ∧ w.heap.size + 1 ≤ wr.heap.size
section
variable {w w' : World} {pb mb room n b K : Nat} {clock c' u' no : Int} {at_ at' : Int → Option Nat} {us us' : Int → Int} {fr fr' : Hand} {s : ByteArray} {d : Bool} {u : Int} {F : List Nat}
set_option maxRecDepth 100000 in
set_option maxHeartbeats 2000000 in
theorem clean_at (h : PoolAt w pb mb room n clock at_ us fr) (m1 : pb ∈ F) (m2 : mb ∈ F) (m3 : ∀ i b, at_ i = some b → b ∈ F) (m4 : ∀ b ∈ F, b < w.heap.size) :
    Calls Tryz.prog 79 #[.pointer (some ⟨pb, 0, none⟩)] w fun e w' => e = .returned (.tuple #[]) ∧ PoolAt w' pb mb room n clock at_ us (cleanAll fr) ∧ Touch F w w' := by
  have H := Lib.hid h
  obtain ⟨c0, c1, c2⟩ := h.cell
  clear h
  go_enter Tryz.func79, Tryz.ntmps79
  go_wp2_with (at_range; refine wpList_range_T _ rfl _ 130 rfl 3 150 Tryz.keyIntP Tryz.underlying130 mb n (Value.int .i64) ptrV at_ rfl H.out.map.toT ?_; intro w5 cnt hrg hg5 hs5)
  have ht5 : Touch F w w5 := (Touch.of_grown hg5).mono (by simp)
  have hp5 := H.out.later ((Touch.of_grown hg5).below (Nat.le_refl _) (by simp))
  have HR := Lib.hid hrg
  have HT := Lib.hid ht5
  have HS := Lib.hid hs5
  have HP := Lib.hid hp5
  clear hrg hg5 hs5 ht5 hp5 c0 c1 c2
  go_frame
  go_loopw [3] (fun v3 wr => ClLoop w F pb mb room n clock at_ us fr wr) (fun _ wr => wr.rangeLeft mb w.heap.size)
  case atStart =>
    refine ⟨⟨fun x => (at_ x).isSome, _, ?_, HR.out, HT.out, by have := HS.out; omega⟩⟩
    have e : cleanH fr (fun x => (at_ x).isSome) = fr := by
      funext i
      unfold cleanH
      cases hf : fr i with
      | none => rfl
      | some x =>
        cases ha : at_ i with
        | none => rw [H.out.out i ha] at hf; cases hf
        | some b => simp [ha]
    rw [e]
    exact HP.out
  case round =>
    obtain ⟨⟨left, cnt, hp, hrg, ht, hsz⟩⟩ := hrel
    have HRG := Lib.hid hrg
    have HTW := Lib.hid ht
    have HPW := Lib.hid hp
    have HSZ := Lib.hid hsz
    clear hrg ht hp hsz HR HT HS HP
    go_wp2_with (at_next; refine wpList_next_T _ rfl _ rfl 3 Tryz.keyIntP mb w.heap.size n (Value.int .i64) ptrV at_ left cnt inv_keyI inj_I rfl HRG.out ?done ?more)
    case done =>
      intro hall
      have e : cleanH fr left = cleanAll fr := by
        funext i
        unfold cleanH cleanAll
        cases hf : fr i with
        | none => rfl
        | some x =>
          cases ha : at_ i with
          | none => rw [H.out.out i ha] at hf; cases hf
          | some b =>
            have hd := H.out.dom i b ha
            simp [hall i _ (keyP (by omega) (by omega))]
      have HE := Lib.hid e
      clear e hall
      go_wp2_with fail
      go_end0
      refine ⟨rfl, ?_, HTW.out⟩
      rw [← HE.out]
      exact HPW.out
    case more =>
      intro x b kl w' cnt' hkey hlx hgx hrg' hlt' hgr hsz hen
      have hx := m4 b (m3 x b hgx)
      have hx1 := m4 pb m1
      have hx2 := m4 mb m2
      have hp' := HPW.out.touch (Touch.of_grown hgr) (by simp; omega) (by simp; omega) (fun i b' hb' => by have := m4 b' (m3 i b' hb'); simp; omega)
      obtain ⟨s, d, e0, r0, u0, u1, n1, n2⟩ := hp'.row x b hgx
      obtain ⟨f0, f1, f2, f3⟩ := frame_cell r0
      have fz := World.rowIs.frozen r0 1
      have hst : Touch [pb, b] w' (w'.setCell ⟨b, 1, none⟩ (.bool false)) := (Touch.refl _ _).setCell (.inl (by simp)) _
      have hst1 : Touch [b] w' (w'.setCell ⟨b, 1, none⟩ (.bool false)) := (Touch.refl _ _).setCell (.inl (by simp)) _
      have hnew := hp'.change hgx hst (rowIs_touch hp'.cells hst1 (by simpa using n1.symm)) (World.rowIs.congr (g := frF s false (us x)) (World.rowIs.set r0 1 (.bool false)) (fun i hi => by rcases i with _ | _ | _ | _ | i <;> first | rfl | omega)) u0 u1 (Int.le_refl _)
      rw [updI_self us rfl] at hnew
      have hfe : updI (cleanH fr left) x (some (s, false)) = cleanH fr (fun z => left z && !decide (z = x)) := by
        funext y
        by_cases e : y = x
        · subst e
          rw [updI_same]
          unfold cleanH at e0 ⊢
          cases hf : fr y with
          | none => rw [hf] at e0; cases e0
          | some q =>
            rw [hf] at e0
            obtain ⟨q1, q2⟩ := q
            simp at e0 ⊢
            exact e0.1.symm
        · rw [updI_other _ _ e]
          unfold cleanH
          cases fr y with
          | none => rfl
          | some q => simp [e]
      rw [hfe] at hnew
      have HN := Lib.hid hnew
      have HR2 := Lib.hid (hrg'.touch hst1 (by simpa using n2.symm) (by simp; omega))
      have HT2 := Lib.hid ((HTW.out.trans (Touch.of_grown hgr) (fun q hq => by simp at hq; subst hq; exact .inr (Nat.le_refl _))).trans hst1 (fun q hq => by simp at hq; subst hq; exact .inl (m3 x q hgx)))
      have HS2 := Lib.hid (show w.heap.size + 1 ≤ (w'.setCell ⟨b, 1, none⟩ (.bool false)).heap.size by have := HSZ.out; simp; omega)
      have HME := Lib.hid (show cnt' < wr.rangeLeft mb w.heap.size by rw [HRG.out.left_eq]; exact hlt')
      clear hnew hp' hrg' hgr hkey hlt' r0 hst hst1 hfe hsz
      simp only [ptrV] at hen
      go_wp2_with fail
      go_roundw
      case rel => exact ⟨⟨_, cnt', HN.out, HR2.out, HT2.out, HS2.out⟩⟩
      case measure => exact HR2.out.left_eq.symm ▸ HME.out
/-- Clean at any pool. -/
theorem pclean_any (h : IsPool w pb F room K fr) : Calls Tryz.prog 79 #[.pointer (some ⟨pb, 0, none⟩)] w fun e w' => e = .returned (.tuple #[]) ∧ PoolGo w w' pb F room K (cleanAll fr) := by
  obtain ⟨mb, n, clock, at_, us, h, hc, m1, m2, m3, m4⟩ := h
  refine (clean_at h m1 m2 m3 m4).mono ?_
  rintro e w' ⟨rfl, hp, ht⟩
  exact ⟨rfl, PoolGo.of_at hp hc ht m1 m2 m3 m4⟩
/-- Dirty at any pool. -/
theorem pdirty_any (h : IsPool w pb F room K fr) : Calls Tryz.prog 75 #[.pointer (some ⟨pb, 0, none⟩)] w fun e w' => ∃ v, e = .returned v ∧ w'.ownsRow (w.heap.size + 1) 3 1 v (cntDirty fr) ((keysI (isDirty fr) 100000).map (Value.int .i64)) ∧ Below w.heap.size w w' := by
  obtain ⟨mb, n, clock, at_, us, h, hc, m1, m2, m3, m4⟩ := h
  exact dirty_at h
end
end Go.Proofs.YtpaholkmlfaflaaGreatDoor

namespace Go.Proofs.YtpaholkmlfaflaaGreatDoor
open Go.RowKit Go.Maps Go.Joins
set_option linter.unusedVariables false
theorem addr_at0 (g j : Nat) : (⟨g, 0, none⟩ : Addr).add j = ⟨g, j, none⟩ := by unfold Addr.add; split <;> simp_all
/-- A row of the call's own, and its elements. -/
theorem own_at {w : World} {base n : Nat} {e : TypeId} {v : Value} {xs : List Value} (h : w.ownsRow base e 1 v n xs) : ∃ a c, v = .slice a n c ∧ ∀ (j : Nat) u, xs[j]? = some u → ∃ g, a = some ⟨g, 0, none⟩ ∧ base ≤ g ∧ g < w.heap.size ∧ w.cell? ⟨g, j, none⟩ = some u := by
  rcases ownsRow_forms h with ⟨e1, h0⟩ | ⟨g, cap, e1⟩
  · refine ⟨none, 0, by rw [e1, h0], fun j u hu => ?_⟩
    have hx : xs = [] := List.eq_nil_of_length_eq_zero (by have := h.1; omega)
    rw [hx] at hu
    simp at hu
  · subst e1
    exact ⟨_, _, rfl, fun j u hu => ⟨g, rfl, (h.lt g rfl).1, (h.lt g rfl).2, addr_at0 g j ▸ h.cells (g := g) rfl j u hu⟩⟩
structure DrLoop (w : World) (pb mb room : Nat) (clock : Int) (at_ : Int → Option Nat) (us : Int → Int) (fr : Hand) (L : List Int) (v : Value) (wr : World) : Prop where
  ex : ∃ (k n' : Nat) (at' : Int → Option Nat) (fr' : Hand), k ≤ L.length ∧ v = .int .i64 k ∧ PoolAt wr pb mb room n' clock at' us fr' ∧ (∀ i, i ∈ L.take k → at' i = none ∧ fr' i = none) ∧ (∀ i, i ∉ L.take k → at' i = at_ i ∧ fr' i = fr i) ∧ Touch [mb] w wr
section
variable {w w' : World} {pb mb room n b K : Nat} {clock c' u' no : Int} {at_ at' : Int → Option Nat} {us us' : Int → Int} {fr fr' : Hand} {s : ByteArray} {d : Bool} {u : Int} {F : List Nat}
set_option maxRecDepth 100000 in
set_option maxHeartbeats 2000000 in
theorem drop_at (h : PoolAt w pb mb room n clock at_ us fr) :
    Calls Tryz.prog 72 #[.pointer (some ⟨pb, 0, none⟩)] w fun e w' => e = .returned (.tuple #[]) ∧ ∃ n' at', PoolAt w' pb mb room n' clock at' us (dropAll fr) ∧ (∀ i b, at' i = some b → at_ i = some b) ∧ Touch [mb] w w' := by
  have H := Lib.hid h
  have HDI := Lib.hid (dirty_at h)
  clear h
  go_enter Tryz.func72, Tryz.ntmps72
  go_wp2_with fail
  refine HDI.out.mono ?_
  rintro e w1 ⟨v, rfl, hrow, hb1⟩
  obtain ⟨a, c, rfl, hcell⟩ := own_at hrow
  have HL : Hid (∃ L : List Int, L = keysI (isDirty fr) 100000) := Lib.hid ⟨_, rfl⟩
  obtain ⟨L, hL⟩ := HL.out
  rw [← hL] at hcell
  have hlen : cntDirty fr = L.length := by rw [hL, keysI_length]; rfl
  rw [hlen]
  have hnd : L.Pairwise (· < ·) := by rw [hL]; exact keysI_sorted _ _
  have hmem : ∀ x, x ∈ L ↔ isDirty fr x = true := fun x => by
    rw [hL, keysI_mem]
    exact ⟨fun h => h.2.2, fun h => ⟨(H.out.dirty_dom h).2.1, (H.out.dirty_dom h).2.2, h⟩⟩
  have hbd : L.length ≤ 65536 := by have := H.out.dirty_le; have := H.out.le; have := H.out.room2; omega
  have HC := Lib.hid hcell
  have HB := Lib.hid hb1
  have HP := Lib.hid (H.out.later hb1)
  have HND := Lib.hid hnd
  have HME := Lib.hid hmem
  clear hrow hb1 hcell hnd hmem hL HL hlen
  go_wp2_with fail
  go_loopw [3, 7] (fun v3 v7 wr => DrLoop w1 pb mb room clock at_ us fr L v7 wr) (fun _ v7 _ => L.length - (intOf v7).toNat)
  case atStart => exact ⟨⟨0, n, at_, fr, Nat.zero_le _, rfl, HP.out, fun i hi => by simp at hi, fun i _ => ⟨rfl, rfl⟩, Touch.refl _ _⟩⟩
  case round =>
    obtain ⟨⟨k, n', at', fr', hk, rfl, hp, h1, h2, ht⟩⟩ := hrel
    have HPW := Lib.hid hp
    have HT := Lib.hid ht
    have HI := Lib.hid h1
    have HO := Lib.hid h2
    obtain ⟨c0, c1, c2⟩ := hp.cell
    clear hp ht h1 h2
    by_cases hlt : k < L.length
    · obtain ⟨x, hx⟩ : ∃ x, L[k]? = some x := ⟨L[k], List.getElem?_eq_getElem hlt⟩
      obtain ⟨g, rfl, hg, hgl, hgc⟩ := HC.out k (.int .i64 x) (by rw [List.getElem?_map, hx]; rfl)
      have hxm : x ∈ L := List.mem_of_getElem? hx
      have hxd := H.out.dirty_dom ((HME.out x).1 hxm)
      have hxt : x ∉ L.take k := fun hm => by
        obtain ⟨j, hj, hj2⟩ := List.mem_take_iff_getElem.1 hm
        have e1 := (List.pairwise_iff_getElem.1 HND.out) j k (by omega) hlt (by omega)
        have e2 : L[k] = x := by rw [List.getElem?_eq_getElem hlt] at hx; injection hx
        rw [hj2, e2] at e1
        omega
      obtain ⟨hxa, hxf⟩ := HO.out x hxt
      obtain ⟨b, hb⟩ := Option.isSome_iff_exists.1 hxd.1
      have hmb : mb < w.heap.size := H.out.lt.2.1
      have gc : wr.cell? ⟨g, k, none⟩ = some (.int .i64 x) := (HT.out.cell (p := ⟨g, k, none⟩) hgl (by simp; omega)).trans hgc
      have gl : g < wr.heap.size := Nat.lt_of_lt_of_le hgl HT.out.size
      have HK := Lib.hid (keyP (no := x) (by omega) (by omega))
      have q1 : (0 : Int) ≤ (k : Int) := by omega
      have q2 : (k : Int) < (L.length : Int) := by omega
      go_wp2_with (at_delete; refine wpList_delete_N _ rfl _ _ 130 3 150 rfl Tryz.keyIntP Tryz.underlying130 mb n' (Value.int .i64) ptrV at' HPW.out.map rfl x _ rfl HK.out (inj_I x) ?_; intro w7 n7 hm7 hn7 ht7)
      rw [hxa, hb] at hn7
      have HD := Lib.hid (HPW.out.del (by rw [hxa]; exact hb) ht7 hm7 (by simpa using hn7))
      have HT7 := Lib.hid (HT.out.trans ht7 (fun q hq => .inl hq))
      clear hm7 ht7 hn7 c0 c1 c2 gc gl q1 q2
      go_wp2_with fail
      go_roundw
      case rel =>
        have htk : ∀ i, i ∈ L.take (k + 1) ↔ (i ∈ L.take k ∨ i = x) := fun i => by
          rw [List.take_add_one, hx]; simp
        refine ⟨⟨k + 1, n7, _, _, by omega, by go_num, HD.out, fun i hi => ?_, fun i hi => ?_, HT7.out⟩⟩
        · by_cases e : i = x
          · subst e; rw [updI_same, updI_same]; exact ⟨rfl, rfl⟩
          · rw [updI_other _ _ e, updI_other _ _ e]
            exact HI.out i (((htk i).1 hi).elim id (fun h => absurd h e))
        · rw [htk] at hi
          have e : i ≠ x := fun e => hi (.inr e)
          rw [updI_other _ _ e, updI_other _ _ e]
          exact HO.out i (fun h => hi (.inl h))
      case measure => simp [intOf]; omega
    · obtain rfl : L.length = k := by omega
      clear hlt c0 c1 c2
      go_wp2_with fail
      go_end0
      have hfr : fr' = dropAll fr := by
        funext i
        unfold dropAll
        by_cases hd : isDirty fr i = true
        · rw [if_pos hd]; exact (HI.out i (by rw [List.take_length]; exact (HME.out i).2 hd)).2
        · rw [if_neg hd]; exact (HO.out i (by rw [List.take_length]; exact fun hm => hd ((HME.out i).1 hm))).2
      rw [← hfr]
      refine ⟨rfl, n', at', HPW.out, fun i b hb => ?_, (Touch.of_below (F := [mb]) HB.out).trans HT.out (fun q hq => .inl hq)⟩
      by_cases hi : i ∈ L.take L.length
      · rw [(HI.out i hi).1] at hb; cases hb
      · rw [← (HO.out i hi).1]; exact hb
/-- Drop at any pool. -/
theorem pdrop_any (h : IsPool w pb F room K fr) : Calls Tryz.prog 72 #[.pointer (some ⟨pb, 0, none⟩)] w fun e w' => e = .returned (.tuple #[]) ∧ PoolGo w w' pb F room K (dropAll fr) := by
  obtain ⟨mb, n, clock, at_, us, h, hc, m1, m2, m3, m4⟩ := h
  refine (drop_at h).mono ?_
  rintro e w' ⟨rfl, n', at', hp, ha, ht⟩
  exact ⟨rfl, PoolGo.of_at hp hc (ht.mono (by simp; exact .inl m2)) m1 m2 (fun i b hb => m3 i b (ha i b hb)) m4⟩
set_option maxRecDepth 100000 in
set_option maxHeartbeats 1000000 in
/-- A new pool. -/
theorem new_pool (room : Nat) (w : World) (h1 : 1 ≤ room) (h2 : room ≤ 65536) :
    Calls Tryz.prog 56 #[.int .i64 room] w fun e w' => e = .returned (.tuple #[.pointer (some ⟨w.heap.size + 1, 0, none⟩), .int .i64 0]) ∧ IsPool w' (w.heap.size + 1) [w.heap.size, w.heap.size + 1] room 0 (fun _ => none) ∧ Below w.heap.size w w' := by
  have hmm := @run_makeMap Tryz.prog
  have q1 : ¬ (room : Int) < 1 := by omega
  have q2 : ¬ (65536 : Int) < room := by omega
  go_enter Tryz.func56, Tryz.ntmps56
  go_wp2_with fail
  go_ret2
  have s1 : (w.alloc (.map #[] 0)).heap.size = w.heap.size + 1 := by simp
  refine ⟨rfl, ⟨w.heap.size, 0, 0, fun _ => none, fun _ => 0, ⟨?_, ?_, fun no b hb => (by cases hb), fun _ _ => rfl, fun i j b hb => (by cases hb), by omega, by omega, fun no b hb => (by cases hb), ?_, by omega, h1, h2⟩, by simp, by simp, by simp, fun no b hb => (by cases hb), fun b hb => ?_⟩, below_alloc (below_alloc (Below.refl _ _))⟩
  · have := World.rowIs_alloc (w.alloc (.map #[] 0)) #[.int .i64 room, .int .i64 0, .map (some w.heap.size)] 132 (poolF room 0 w.heap.size) (fun i hi => by rcases i with _ | _ | _ | i <;> first | rfl | (simp at hi; omega))
    rw [s1] at this
    exact this
  · exact (MapN.made w Tryz.prog 3 (Value.int .i64) ptrV).alloc _
  · have : ∀ N, cntI (fun i => ((fun _ => none : Hand) i).isSome) N = 0 := fun N => by
      induction N with
      | zero => rfl
      | succ N ih => rw [cntI_succ, ih]; rfl
    exact (this _).symm
  · simp at hb
    simp
    omega
end
end Go.Proofs.YtpaholkmlfaflaaGreatDoor

namespace Go.Proofs.YtpaholkmlfaflaaGreatDoor
open Go.RowKit
set_option linter.unusedVariables false

/-- A pager: its disk, its log, what is under way, what is in the log alone. -/
structure PM where
  m : DM
  l : LM
  size : Nat
  gen : Int
  most : Nat
  room : Nat
  dirty : Int → Option ByteArray
  hot : Int → Option ByteArray
  dead : Bool

/-- The page whose first sector is a. -/
def pgOf (m : DM) (a : Nat) : ByteArray := imgM ((List.range 8).map fun k => secM m (a + k))
/-- What counts for good of a page. -/
def baseP (M : PM) (no : Int) : ByteArray := (M.hot no).getD (pgOf M.m (2 + M.size + no.toNat * 8))
/-- What counts of a page. -/
def viewP (M : PM) (no : Int) : ByteArray := (M.dirty no).getD (baseP M no)
/-- Kind, room and error of a page. -/
def rdP (M : PM) (no : Int) : Int × ByteArray × Int := if M.m.down then (0, ⟨#[]⟩, 11) else (unK (viewP M no) no, unR (viewP M no) no, unE (viewP M no) no)
def usedR (r : ByteArray) : Int := leN (cut r 0 4)
def freeR (r : ByteArray) : Int := leN (cut r 4 4)
def pagesP (M : PM) : Int := if (rdP M 0).2.2 = 0 then usedR (rdP M 0).2.1 else 0
def readP (M : PM) (no : Int) : Int × ByteArray × Int :=
  if no < 0 then (0, ⟨#[]⟩, 1) else if (rdP M 0).2.2 ≠ 0 then (0, ⟨#[]⟩, (rdP M 0).2.2) else if usedR (rdP M 0).2.1 ≤ no then (0, ⟨#[]⟩, 1) else rdP M no
def cntD (M : PM) : Nat := cntI (fun i => (M.dirty i).isSome) 100000
/-- A page becomes another one. -/
def setP (M : PM) (no kind : Int) (room : ByteArray) : Int × PM :=
  if pgArg kind no = false then (1, M) else if 496 < room.size then (3, M) else
  if (M.dirty no).isSome = true ∨ cntD M < M.room then (0, { M with dirty := updI M.dirty no (some (pgStr kind no room)) }) else (10, M)
def headR (used free : Int) (r : ByteArray) : ByteArray := S (leB used 4 ++ (leB free 4 ++ (r.extract 8 r.size).data.toList))
def setHeadP (M : PM) (used free : Int) (r : ByteArray) : Int × PM := setP M 0 1 (headR used free r)
def oursK (kind : Int) : Bool := decide (2 ≤ kind ∧ kind ≤ 254)
def withinP (M : PM) (no : Int) : Bool := decide (1 ≤ no ∧ no < pagesP M)
def writeP (M : PM) (no kind : Int) (room : ByteArray) : Int × PM := if withinP M no = true ∧ oursK kind = true then setP M no kind room else (1, M)
def fillR (r : ByteArray) (n : Nat) : ByteArray := S (r.data.toList ++ nul (n - r.size))
/-- Where a new page comes from: its number, what is in use then, what is free then; or an error. -/
def pickP (M : PM) : Int × Int × Int × Int :=
  if (rdP M 0).2.2 ≠ 0 then (0, 0, 0, (rdP M 0).2.2) else
  let r := (rdP M 0).2.1
  if 0 < freeR r then
    let x := rdP M (freeR r)
    if x.2.2 ≠ 0 then (0, 0, 0, x.2.2) else
    if x.1 ≠ 255 ∨ x.2.1 ≠ fillR (x.2.1.extract 0 4) 496 ∨ usedR r ≤ leN (cut x.2.1 0 4) then (0, 0, 0, 19) else (freeR r, usedR r, leN (cut x.2.1 0 4), 0)
  else if (M.most : Int) ≤ usedR r then (0, 0, 0, 8) else (usedR r, usedR r + 1, 0, 0)
def allocP (M : PM) (kind : Int) : Int × Int × PM :=
  if oursK kind = false then (0, 1, M) else
  let q := pickP M
  if q.2.2.2 ≠ 0 then (0, q.2.2.2, M) else
  let s := setP M q.1 kind ⟨#[]⟩
  if s.1 ≠ 0 then (0, s.1, s.2) else
  let t := setHeadP s.2 q.2.1 q.2.2.1 (rdP M 0).2.1
  if t.1 ≠ 0 then (0, t.1, t.2) else (q.1, 0, t.2)
def freeP (M : PM) (no : Int) : Int × PM :=
  if withinP M no = false then (1, M) else
  if (rdP M no).2.2 ≠ 0 then ((rdP M no).2.2, M) else
  if (rdP M no).1 = 255 then (6, M) else
  let r := (rdP M 0).2.1
  let s := setP M no 255 (S (leB (freeR r) 4))
  if s.1 ≠ 0 then s else setHeadP s.2 (usedR r) no r
def rootP (M : PM) (i : Int) : Int × Int :=
  if i < 0 ∨ 8 ≤ i then (0, 1) else if (rdP M 0).2.2 ≠ 0 then (0, (rdP M 0).2.2) else (leN (cut (rdP M 0).2.1 (8 + 8 * i.toNat) 8), 0)
def rootR (r : ByteArray) (i : Nat) (n : Int) : ByteArray := S ((r.extract 0 (8 + 8 * i)).data.toList ++ (leB n 8 ++ (r.extract (8 + 8 * i + 8) r.size).data.toList))
def setRootP (M : PM) (i n : Int) : Int × PM :=
  if i < 0 ∨ 8 ≤ i then (1, M) else if (rdP M 0).2.2 ≠ 0 then ((rdP M 0).2.2, M) else setP M 0 1 (rootR (rdP M 0).2.1 i.toNat n)
def dirtyL (M : PM) : List Int := keysI (fun i => (M.dirty i).isSome) 100000
def hotL (M : PM) : List Int := keysI (fun i => (M.hot i).isSome) 100000
/-- A page is written to its place. -/
def putX (x : Int × DM) (a : Nat) (s : ByteArray) : Int × DM := (List.range 8).foldl (fun x k => stepW x ((a + k : Nat) : Int) (s.extract (k * 64) ((k + 1) * 64))) x
/-- A mark's text. -/
def superT (first : Int) (size : Nat) : ByteArray := S (leB first 8 ++ (leB size 4 ++ nul 36))
def layX (M : PM) : Int × DM :=
  let x := (hotL M).foldl (fun x no => putX x (2 + M.size + no.toNat * 8) ((M.hot no).getD ⟨#[]⟩)) (0, M.m)
  let g := (M.gen + 1) % 18446744073709551616
  stepF (stepW (stepF x) (g % 2) (mkStr g (superT M.l.next M.size)))
def layP (M : PM) : Int × PM :=
  let x := layX M
  if x.1 ≠ 0 then (x.1, { M with m := x.2, dead := true }) else
  (if M.l.dead then 17 else 0, { M with m := x.2, gen := (M.gen + 1) % 18446744073709551616, hot := fun _ => none, l := if M.l.dead then M.l else { M.l with at_ := 0 } })
def ckP (M : PM) : Int × PM := if M.dead = true ∨ 0 < cntD M then (17, M) else layP M
/-- What is to be committed. -/
def dirtyPages (M : PM) : List ByteArray := (dirtyL M).map fun no => (M.dirty no).getD ⟨#[]⟩
def keepP (M : PM) : PM := { M with hot := fun i => (M.dirty i).orElse fun _ => M.hot i, dirty := fun _ => none }
def apP (M : PM) : Int × PM := let r := apR M.l M.m (dirtyPages M) (dirtyPages M).length; (r.1, { M with l := r.2.1, m := r.2.2 })
def endP (x : Int × PM) : Int × PM := if x.1 = 0 then (0, keepP x.2) else (x.1, { x.2 with dead := x.2.dead || decide (x.1 ≠ 9) })
def commitP (M : PM) : Int × PM :=
  if M.dead = true then (17, M) else if cntD M = 0 then (0, M) else if 64 < cntD M then (10, M) else
  let a := apP M
  endP (if a.1 = 9 ∧ 1 + 9 * cntD M ≤ M.size then (let y := layP a.2; if y.1 = 0 then apP y.2 else y) else a)
def abortP (M : PM) : PM := { M with dirty := fun _ => none }
end Go.Proofs.YtpaholkmlfaflaaGreatDoor

namespace Go.Proofs.YtpaholkmlfaflaaGreatDoor
open Go.RowKit Go.Joins
set_option linter.unusedVariables false

section
variable {w : World} {d lb : Nat} {l : LM}
theorem next_any (h : LogAt w lb d l) : Calls Tryz.prog 108 #[.pointer (some ⟨lb, 0, none⟩)] w fun e w' => e = .returned (.int .u64 l.next) ∧ w = w' := by
  obtain ⟨c0, c1, c2, c3, c4, c5⟩ := h.cell
  clear h
  go_enter Tryz.func108, Tryz.ntmps108
  go_wp2_with fail
  go_ret
  exact ⟨rfl, rfl⟩
theorem next_nil (w : World) : Calls Tryz.prog 108 #[.pointer none] w fun e w' => e = .returned (.int .u64 0) ∧ w = w' := by
  go_enter Tryz.func108, Tryz.ntmps108
  go_wp2_with fail
  go_ret
  exact ⟨rfl, rfl⟩
theorem restart_nil (w : World) : Calls Tryz.prog 109 #[.pointer none] w fun e w' => e = .returned (.int .i64 1) ∧ w = w' := by
  go_enter Tryz.func109, Tryz.ntmps109
  go_wp2_with fail
  go_ret
  exact ⟨rfl, rfl⟩
theorem restart_dead (h : LogAt w lb d l) (hd : l.dead = true) : Calls Tryz.prog 109 #[.pointer (some ⟨lb, 0, none⟩)] w fun e w' => e = .returned (.int .i64 17) ∧ w = w' := by
  obtain ⟨c0, c1, c2, c3, c4, c5⟩ := h.cell
  rw [hd] at c5
  clear h hd
  go_enter Tryz.func109, Tryz.ntmps109
  go_wp2_with fail
  go_ret
  exact ⟨rfl, rfl⟩
theorem restart_any (h : LogAt w lb d l) (hd : l.dead = false) : Calls Tryz.prog 109 #[.pointer (some ⟨lb, 0, none⟩)] w fun e w' => e = .returned (.int .i64 0) ∧ LogAt w' lb d { l with at_ := 0 } ∧ Touch [lb] w w' := by
  obtain ⟨c0, c1, c2, c3, c4, c5⟩ := h.cell
  have f3 := h.frozen 3
  rw [hd] at c5
  have H := Lib.hid h
  clear h hd
  go_enter Tryz.func109, Tryz.ntmps109
  go_wp2_with fail
  go_ret
  refine ⟨rfl, ?_, (Touch.refl _ _).setCell (.inl (by simp)) _⟩
  refine World.rowIs.congr (World.rowIs.set H.out 3 (.int .i64 0)) (fun t ht => ?_)
  rcases t with _ | _ | _ | _ | _ | _ | t
  · rfl
  · rfl
  · rfl
  · rfl
  · rfl
  · rfl
  · omega
end

/-! Page. -/
def pageAt (a b : Int) (t : Nat) : Int := (a + b * (t : Int)) % 256
def pageB (a b : Int) : ByteArray := S ((List.range 512).map fun t => UInt8.ofNat (pageAt a b t).toNat)
theorem pageB_size (a b : Int) : (pageB a b).size = 512 := by unfold pageB; rw [S_size]; simp
theorem pageAt_bd (a b : Int) (t : Nat) : 0 ≤ pageAt a b t ∧ pageAt a b t < 256 := by unfold pageAt; omega
theorem pageAt_walk (a b : Int) (t : Nat) : (a + b * ((t : Int) % 256)) % 256 = pageAt a b t := by
  unfold pageAt
  have h : (b * ((t : Int) % 256)) % 256 = (b * t) % 256 := by rw [Int.mul_emod, Int.emod_emod, ← Int.mul_emod]
  generalize b * ((t : Int) % 256) = x at *
  generalize b * (t : Int) = y at *
  omega

theorem Tryz.infoByteP : (Tryz.prog.info? 5).map (fun i => (i.zero, i.size, i.bytes)) = some (some (.int .u8 0), 1, 1) := by kernel_rfl
end Go.Proofs.YtpaholkmlfaflaaGreatDoor

namespace Go.Proofs.YtpaholkmlfaflaaGreatDoor
open Go.RowKit
set_option linter.unusedVariables false
/-- The better one of two sectors. -/
def bestV (a b : ByteArray) : Value :=
  if mOk a && (!mOk b || decide (mN b ≤ mN a)) then .tuple #[.int .u64 (mN a), .string (mT a), .int .i64 0]
  else if mOk b then .tuple #[.int .u64 (mN b), .string (mT b), .int .i64 1] else .tuple #[.int .u64 0, .string ⟨#[]⟩, .int .i64 (-1)]

set_option maxHeartbeats 1000000 in
theorem best_any (a b : ByteArray) (w : World) (ha : a.size ≤ 9223372036854775807) (hb : b.size ≤ 9223372036854775807) :
    Calls Tryz.prog 54 #[.string a, .string b] w fun e w' => e = .returned (bestV a b) ∧ Drawn w w' := by
  cases h1 : mOk a <;> cases h2 : mOk b <;> by_cases h3 : mN b ≤ mN a
  all_goals
    have fin : bestV a b = bestV a b := rfl
    conv at fin => rhs; simp [bestV, h1, h2, h3]
    have F := Lib.hid fin
    clear fin
    have d3 : decide (mN b ≤ mN a) = decide (mN b ≤ mN a) := rfl
    conv at d3 => rhs; simp [h3]
    go_enter Tryz.func54, Tryz.ntmps54
    go_wp2_with fail
    refine (markGet_any a _ ha).mono ?_
    rintro e w1 ⟨rfl, q1, rfl⟩
    go_wp2_with fail
    refine (markGet_any b _ hb).mono ?_
    rintro e w1 ⟨rfl, q2, rfl⟩
    go_wp2_with fail
    go_ret3
    rw [F.out]
    exact ⟨rfl, _, rfl⟩
end Go.Proofs.YtpaholkmlfaflaaGreatDoor

