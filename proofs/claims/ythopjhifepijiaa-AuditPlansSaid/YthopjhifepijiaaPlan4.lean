/- The walk of plan.Right: its maps, and the loop over the vertices. -/
import Derived.Test.YthopjhifepijiaaPlan3
namespace Go.Proofs.Ythopjhifepijiaa
open Go.RowKit
open Go.Maps (Keyed)
set_option linter.unusedVariables false

abbrev evB (b : Bool) : Value := .bool b
abbrev ekQ (x : Int × Int) : Value := .agg #[.int .i64 x.1, .int .i64 x.2]
theorem ptV_inj (x y : Pt) (h : ptV y = ptV x) : y = x := by
  obtain ⟨a, b⟩ := x
  obtain ⟨c, d⟩ := y
  simp [ptV] at h
  simp [h]
theorem ekQ_inj (x y : Int × Int) (h : ekQ y = ekQ x) : y = x := by
  obtain ⟨a, b⟩ := x
  obtain ⟨c, d⟩ := y
  simp [ekQ] at h
  simp [h]
theorem key_pt {p : Pt} (h : fitP p) : keyOf Try.prog 51 (ptV p) = some (.string (keyBytes [.int .i64 p.x, .int .i64 p.y])) := key_point p.x p.y (WalkArith.wf_i64 (by unfold fitP at h; omega)) (WalkArith.wf_i64 (by unfold fitP at h; omega))
theorem key_q {x : Int × Int} (h1 : fitI x.1) (h2 : fitI x.2) : keyOf Try.prog 79 (ekQ x) = some (.string (keyBytes [.int .i64 x.1, .int .i64 x.2])) := key_pair x.1 x.2 (wf_int h1) (wf_int h2)
/-- Points that were met. -/
def metB (l : List Vx) (q : Pt) : Bool := l.any fun u => decide (u.at_ = q)
def metM (l : List Vx) (q : Pt) : Option Bool := if metB l q then some true else none
theorem metM_snoc (l : List Vx) (v : Vx) : metM (l ++ [v]) = updT (metM l) v.at_ true := by
  funext q
  unfold updT metM
  have : metB (l ++ [v]) q = (metB l q || decide (v.at_ = q)) := by simp [metB, List.any_append]
  rw [this]
  by_cases e : q = v.at_
  · rw [if_pos e, decide_eq_true e.symm, Bool.or_true, if_pos rfl]
  · rw [if_neg e, decide_eq_false (fun h => e h.symm), Bool.or_false]
/-- Pairs of ends that were met. -/
def pairB (l : List Ed) (x : Int × Int) : Bool := l.any fun f => decide (ends f = x)
def pairM (l : List Ed) (x : Int × Int) : Option Bool := if pairB l x then some true else none
theorem pairM_snoc (l : List Ed) (v : Ed) : pairM (l ++ [v]) = updT (pairM l) (ends v) true := by
  funext q
  unfold updT pairM
  have : pairB (l ++ [v]) q = (pairB l q || decide (ends v = q)) := by simp [pairB, List.any_append]
  rw [this]
  by_cases e : q = ends v
  · rw [if_pos e, decide_eq_true e.symm, Bool.or_true, if_pos rfl]
  · rw [if_neg e, decide_eq_false (fun h => e h.symm), Bool.or_false]
def MetMap (w : World) (M n : Nat) (l : List Vx) : Prop := MapT w Try.prog 51 M n ptV evB (metM l)
def PairMap (w : World) (M n : Nat) (l : List Ed) : Prop := MapT w Try.prog 79 M n ekQ evB (pairM l)
theorem zeroBool (w : World) : (zeroValue 4).run Try.prog w = .ok (.bool false) w := by kernel_rfl
theorem MetMap.look {w : World} {M n : Nat} {l : List Vx} (h : MetMap w M n l) {q : Pt} (hq : fitP q) :
    (Instr.lookup 101 (.map (some M)) (.agg #[.int .i64 q.x, .int .i64 q.y]) false).run Try.prog w = .ok (.bool (metB l q)) w := by
  have := MapT.look h Try.keyPoint Try.underlying101 (zeroBool w) (x := q) (key_pt hq)
  rw [show (Value.agg #[.int .i64 q.x, .int .i64 q.y]) = ptV q from rfl, this]
  unfold metM
  cases metB l q <;> rfl
theorem PairMap.look {w : World} {M n : Nat} {l : List Ed} (h : PairMap w M n l) {x : Int × Int} (h1 : fitI x.1) (h2 : fitI x.2) :
    (Instr.lookup 102 (.map (some M)) (.agg #[.int .i64 x.1, .int .i64 x.2]) false).run Try.prog w = .ok (.bool (pairB l x)) w := by
  have := MapT.look h Try.keyPair Try.underlying102 (zeroBool w) (x := x) (key_q h1 h2)
  rw [show (Value.agg #[.int .i64 x.1, .int .i64 x.2]) = ekQ x from rfl, this]
  unfold pairM
  cases pairB l x <;> rfl
theorem metB_iff {l : List Vx} {q : Pt} : metB l q = true ↔ ∃ u ∈ l, u.at_ = q := by simp [metB]
theorem pairB_iff {l : List Ed} {x : Int × Int} : pairB l x = true ↔ ∃ u ∈ l, ends u = x := by simp [pairB]
theorem mem_take {α : Type} {l : List α} {k : Nat} {u : α} : u ∈ l.take k ↔ ∃ j, j < k ∧ l[j]? = some u := by
  rw [List.mem_iff_getElem?]
  constructor
  · rintro ⟨j, hj⟩
    have h1 := (List.getElem?_eq_some_iff.1 hj).1
    rw [List.length_take] at h1
    exact ⟨j, by omega, by rwa [List.getElem?_take_of_lt (by omega)] at hj⟩
  · rintro ⟨j, hj, hu⟩
    exact ⟨j, by rwa [List.getElem?_take_of_lt hj]⟩
theorem ends_fit {e : Ed} (h1 : fitI e.a) (h2 : fitI e.b) : fitI (ends e).1 ∧ fitI (ends e).2 := by
  unfold fitI at *
  unfold ends
  simp only
  constructor
  · rcases Int.le_total e.a e.b with h | h
    · rw [Int.min_eq_left h]; omega
    · rw [Int.min_eq_right h]; omega
  · rcases Int.le_total e.a e.b with h | h
    · rw [Int.max_eq_right h]; omega
    · rw [Int.max_eq_left h]; omega
theorem pid_fit {p : PL} (h : FitPL p) (k : Nat) : fitI (pid p.vs k) := by
  cases k with
  | zero => simp [fitI, pid]
  | succ k =>
    show fitI (((p.vs[k]?).map (·.id)).getD 0)
    cases hk : p.vs[k]? with
    | none => unfold fitI; decide
    | some v => exact (h.vs v (List.mem_of_getElem? hk)).1
theorem eid_fit {p : PL} (h : FitPL p) (k : Nat) : fitI (eid p.es k) := by
  cases k with
  | zero => simp [fitI, eid]
  | succ k =>
    show fitI (((p.es[k]?).map (·.id)).getD 0)
    cases hk : p.es[k]? with
    | none => unfold fitI; decide
    | some v => exact (h.es v (List.mem_of_getElem? hk)).1
theorem pid_succ {vs : List Vx} {k : Nat} {v : Vx} (h : vs[k]? = some v) : pid vs (k + 1) = v.id := by show ((vs[k]?).map (·.id)).getD 0 = _; rw [h]; rfl
theorem eid_succ {vs : List Ed} {k : Nat} {v : Ed} (h : vs[k]? = some v) : eid vs (k + 1) = v.id := by show ((vs[k]?).map (·.id)).getD 0 = _; rw [h]; rfl
/-- The maps that Right writes. -/
abbrev rgF (w : World) : List Nat := [w.heap.size + 1, w.heap.size + 1 + 1]
abbrev rgG (w : World) (P : Nat) : List Nat := [w.heap.size + 1, w.heap.size + 1 + 1, P]
/-- What holds after k vertices. -/
structure RgtV (w W wr : World) (p : PL) (k : Nat) : Prop where
  le : k ≤ p.vs.length
  ok : ∀ i v, i < k → p.vs[i]? = some v → VOk p.vs i v
  mat : AtMap wr (w.heap.size + 1) k (p.vs.take k)
  met : MetMap wr (w.heap.size + 1 + 1) k (p.vs.take k)
  tch : Touch (rgF w) W wr
/-- What holds after k edges. -/
structure RgtE (w W wr : World) (p : PL) (P k : Nat) : Prop where
  le : k ≤ p.es.length
  ok : ∀ i e, i < k → p.es[i]? = some e → ∃ A B, EOk p.vs p.es i e A B
  mat : AtMap wr (w.heap.size + 1) p.vs.length p.vs
  pr : PairMap wr P k (p.es.take k)
  tch : Touch (rgG w P) W wr
theorem RgtV.later {w W wr w' : World} {p : PL} {k : Nat} (h : RgtV w W wr p k) (hb : Below wr.heap.size wr w') : RgtV w W w' p k :=
  ⟨h.le, h.ok, MapT.below h.mat hb, MapT.below h.met hb, h.tch.trans (Touch.of_below (F := rgF w) hb) (fun b hb => .inl hb)⟩
theorem RgtE.later {w W wr w' : World} {p : PL} {P k : Nat} (h : RgtE w W wr p P k) (hb : Below wr.heap.size wr w') : RgtE w W w' p P k :=
  ⟨h.le, h.ok, MapT.below h.mat hb, MapT.below h.pr hb, h.tch.trans (Touch.of_below (F := rgG w P) hb) (fun b hb => .inl hb)⟩
/-- One vertex more. -/
theorem RgtV.step {w W w2 w3 w4 : World} {p : PL} {k : Nat} {v : Vx} (h : RgtV w W w2 p k) (hv : p.vs[k]? = some v) (ok : VOk p.vs k v)
    (hm3 : MapT w3 Try.prog 3 (w.heap.size + 1) (k + 1) ekI ptV (updT (ptOf (p.vs.take k)) v.id v.at_)) (hg3 : w2.grownBy w3 (some (w.heap.size + 1)))
    (hm4 : MapT w4 Try.prog 51 (w.heap.size + 1 + 1) (k + 1) ptV evB (updT (metM (p.vs.take k)) v.at_ true)) (hg4 : w3.grownBy w4 (some (w.heap.size + 1 + 1))) : RgtV w W w4 p (k + 1) := by
  have hlt := (List.getElem?_eq_some_iff.1 hv).1
  refine ⟨by omega, fun i u hi hu => ?_, ?_, ?_, (h.tch.trans (Touch.of_grown hg3) (by simp)).trans (Touch.of_grown hg4) (by simp)⟩
  · by_cases e : i = k
    · subst e; rw [hv] at hu; cases hu; exact ok
    · exact h.ok i u (by omega) hu
  · have e : ptOf (p.vs.take (k + 1)) = updT (ptOf (p.vs.take k)) v.id v.at_ := by
      rw [take_snoc' hv]
      exact ptOf_snoc (fun u hu => by have := id_new (fun i v hi hv => h.ok i v hi hv) hv ok.rise u hu; omega)
    unfold AtMap
    rw [e]
    exact MapT.touch hm3 (Touch.of_grown hg4) (by simp)
  · unfold MetMap
    rw [take_snoc' hv, metM_snoc]
    exact hm4
/-- One edge more. -/
theorem RgtE.step {w W w2 w3 : World} {p : PL} {P j : Nat} {e : Ed} (h : RgtE w W w2 p P j) (he : p.es[j]? = some e) (ok : ∃ A B, EOk p.vs p.es j e A B) (hP : P ≠ w.heap.size + 1)
    (hm3 : MapT w3 Try.prog 79 P (j + 1) ekQ evB (updT (pairM (p.es.take j)) (ends e) true)) (hg3 : w2.grownBy w3 (some P)) : RgtE w W w3 p P (j + 1) := by
  have hlt := (List.getElem?_eq_some_iff.1 he).1
  refine ⟨by omega, fun i u hi hu => ?_, MapT.touch h.mat (Touch.of_grown hg3) (by simp; exact fun h => hP h.symm), ?_, h.tch.trans (Touch.of_grown hg3) (by simp)⟩
  · by_cases e' : i = j
    · subst e'; rw [he] at hu; cases hu; exact ok
    · exact h.ok i u (by omega) hu
  · unfold PairMap
    rw [take_snoc' he, pairM_snoc]
    exact hm3
theorem RgtE.keep {w W w2 w3 : World} {p : PL} {P j : Nat} {e : Ed} (h : RgtE w W w2 p P j) (hg3 : w2.grownBy w3 (some P)) (hm3 : MapT w3 Try.prog 79 P (j + 1) ekQ evB (updT (pairM (p.es.take j)) (ends e) true)) (hP : P ≠ w.heap.size + 1) : Hid (Touch (rgG w P) W w3) := h.tch.trans (Touch.of_grown hg3) (by simp)
theorem crossed_no {vs : List Vx} {es : List Ed} {j : Nat} {a b : Pt} (h : crossedB vs (es.take j) a b = false) : ∀ i f, i < j → es[i]? = some f → meetB a b (ptZ vs f.a) (ptZ vs f.b) = false := by
  intro i f hi hf
  unfold crossedB at h
  rw [List.any_eq_false] at h
  simpa using h f (mem_take.2 ⟨i, hi, hf⟩)
theorem crossed_yes {vs : List Vx} {es : List Ed} {j : Nat} {a b : Pt} (h : crossedB vs (es.take j) a b = true) : ∃ i f, i < j ∧ es[i]? = some f ∧ meetB a b (ptZ vs f.a) (ptZ vs f.b) = true := by
  unfold crossedB at h
  rw [List.any_eq_true] at h
  obtain ⟨f, hf, hm⟩ := h
  obtain ⟨i, hi, hf⟩ := mem_take.1 hf
  exact ⟨i, f, hi, hf, hm⟩
theorem ptZ_of {vs : List Vx} {id : Int} {q : Pt} (h : ptOf vs id = some q) : ptZ vs id = q := by unfold ptZ; rw [h]; rfl
end Go.Proofs.Ythopjhifepijiaa
