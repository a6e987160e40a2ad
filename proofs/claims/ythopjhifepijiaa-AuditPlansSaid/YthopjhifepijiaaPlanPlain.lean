/- Plans: plain facts. No program in sight. -/
import Derived.Test.YthopjhifepijiaaGeoPlain
import Derived.Test.YthopjhifepijiaaMapT
namespace Go.Proofs.Ythopjhifepijiaa
set_option linter.unusedVariables false

/-- A vertex. -/
structure Vx where
  id : Int
  at_ : Pt
deriving DecidableEq, Inhabited
/-- An edge. -/
structure Ed where
  id : Int
  a : Int
  b : Int
deriving DecidableEq, Inhabited
/-- A plan. -/
structure PL where
  vs : List Vx
  es : List Ed
def fitI (x : Int) : Prop := -9223372036854775808 ≤ x ∧ x ≤ 9223372036854775807
/-- All numbers fit. -/
structure FitPL (p : PL) : Prop where
  vs : ∀ v ∈ p.vs, fitI v.id ∧ fitP v.at_
  es : ∀ e ∈ p.es, fitI e.id ∧ fitI e.a ∧ fitI e.b

/-- Where a vertex is. -/
def ptOf (vs : List Vx) (id : Int) : Option Pt := (vs.find? (fun v => v.id == id)).map (·.at_)
def ptZ (vs : List Vx) (id : Int) : Pt := (ptOf vs id).getD ⟨0, 0⟩
theorem ptOf_nil (id : Int) : ptOf [] id = none := rfl
theorem ptOf_some {vs : List Vx} {id : Int} {q : Pt} (h : ptOf vs id = some q) : ∃ v ∈ vs, v.id = id ∧ v.at_ = q := by
  unfold ptOf at h
  rw [Option.map_eq_some_iff] at h
  obtain ⟨v, hv, e⟩ := h
  exact ⟨v, List.mem_of_find?_eq_some hv, by simpa using List.find?_some hv, e⟩
theorem ptOf_none {vs : List Vx} {id : Int} (h : ptOf vs id = none) : ∀ v ∈ vs, v.id ≠ id := by
  unfold ptOf at h
  rw [Option.map_eq_none_iff, List.find?_eq_none] at h
  intro v hv e
  exact h v hv (by simpa using e)
theorem ptOf_snoc {vs : List Vx} {v : Vx} (h : ∀ u ∈ vs, u.id ≠ v.id) : ptOf (vs ++ [v]) = updT (ptOf vs) v.id v.at_ := by
  funext id
  unfold updT
  by_cases e : id = v.id
  · subst e
    rw [if_pos rfl]
    unfold ptOf
    rw [List.find?_append]
    have : vs.find? (fun u => u.id == v.id) = none := by
      rw [List.find?_eq_none]; intro u hu; simpa using h u hu
    rw [this]; simp
  · rw [if_neg e]
    unfold ptOf
    rw [List.find?_append]
    have : [v].find? (fun u => u.id == id) = none := by
      rw [List.find?_eq_none]; intro u hu; simp at hu; subst hu; simpa using fun h => e h.symm
    rw [this]; simp
/-- With distinct numbers each vertex is found. -/
theorem ptOf_mem {vs : List Vx} (hd : vs.Pairwise (fun u v => u.id ≠ v.id)) {v : Vx} (hv : v ∈ vs) : ptOf vs v.id = some v.at_ := by
  induction vs with
  | nil => cases hv
  | cons u l ih =>
    obtain ⟨h1, h2⟩ := List.pairwise_cons.1 hd
    unfold ptOf
    rw [List.find?_cons]
    by_cases e : u.id = v.id
    · rw [show (u.id == v.id) = true by simpa using e]
      rcases List.mem_cons.1 hv with rfl | hv
      · rfl
      · exact absurd e (h1 v hv)
    · rw [show (u.id == v.id) = false by simpa using e]
      rcases List.mem_cons.1 hv with rfl | hv
      · exact absurd rfl e
      · exact ih h2 hv

/-- The number of the one ahead. -/
def pid (vs : List Vx) : Nat → Int
  | 0 => 0
  | i + 1 => ((vs[i]?).map (·.id)).getD 0
def eid (es : List Ed) : Nat → Int
  | 0 => 0
  | i + 1 => ((es[i]?).map (·.id)).getD 0
structure VOk (vs : List Vx) (i : Nat) (v : Vx) : Prop where
  rise : pid vs i < v.id
  inr : inB v.at_ = true
  ne : ∀ j u, j < i → vs[j]? = some u → u.at_ ≠ v.at_
/-- The ends, the lesser first. -/
def ends (e : Ed) : Int × Int := (min e.a e.b, max e.a e.b)
structure EOk (vs : List Vx) (es : List Ed) (i : Nat) (e : Ed) (A B : Pt) : Prop where
  rise : eid es i < e.id
  pa : ptOf vs e.a = some A
  pb : ptOf vs e.b = some B
  ab : e.a ≠ e.b
  pair : ∀ j f, j < i → es[j]? = some f → ends f ≠ ends e
  way : ∀ v ∈ vs, onB v.at_ A B = false
  cross : ∀ j f, j < i → es[j]? = some f → meetB A B (ptZ vs f.a) (ptZ vs f.b) = false
structure RightP (p : PL) : Prop where
  nv : p.vs.length ≤ 512
  ne : p.es.length ≤ 1024
  v : ∀ i v, p.vs[i]? = some v → VOk p.vs i v
  e : ∀ i e, p.es[i]? = some e → ∃ A B, EOk p.vs p.es i e A B
open Classical in
noncomputable def rightB (p : PL) : Bool := decide (RightP p)
open Classical in
theorem rightB_iff {p : PL} : rightB p = true ↔ RightP p := by unfold rightB; exact decide_eq_true_iff
theorem rightB_no {p : PL} (h : ¬ RightP p) : rightB p = false := by rw [Bool.eq_false_iff, ne_eq, rightB_iff]; exact h

/-- Numbers rise. -/
theorem pid_rise {vs : List Vx} {k : Nat} (h : ∀ i v, i < k → vs[i]? = some v → VOk vs i v) : ∀ (d j : Nat) (u : Vx), j + d + 1 ≤ k → vs[j]? = some u → k ≤ vs.length → u.id ≤ pid vs (j + d + 1)
  | 0, j, u, hk, hu, hl => by show u.id ≤ ((vs[j]?).map (·.id)).getD 0; rw [hu]; exact Int.le_refl _
  | d + 1, j, u, hk, hu, hl => by
    have ih := pid_rise h d j u (by omega) hu hl
    obtain ⟨x, hx⟩ : ∃ x, vs[j + d + 1]? = some x := ⟨vs[j + d + 1]'(by omega), List.getElem?_eq_getElem _⟩
    have := (h (j + d + 1) x (by omega) hx).rise
    show u.id ≤ ((vs[j + d + 1]?).map (·.id)).getD 0
    rw [hx]
    show u.id ≤ x.id
    omega
theorem id_new {vs : List Vx} {k : Nat} {v : Vx} (h : ∀ i v, i < k → vs[i]? = some v → VOk vs i v) (hk : vs[k]? = some v) (hv : pid vs k < v.id) : ∀ u ∈ vs.take k, u.id < v.id := by
  intro u hu
  obtain ⟨j, hj⟩ := List.mem_iff_getElem?.1 hu
  have hjk : j < k := by
    have := (List.getElem?_eq_some_iff.1 hj).1
    rw [List.length_take] at this; omega
  rw [List.getElem?_take_of_lt hjk] at hj
  have hl := (List.getElem?_eq_some_iff.1 hk).1
  have := pid_rise h (k - 1 - j) j u (by omega) hj (by omega)
  rw [show j + (k - 1 - j) + 1 = k by omega] at this
  omega
theorem take_snoc' {α : Type} {l : List α} {k : Nat} {v : α} (h : l[k]? = some v) : l.take (k + 1) = l.take k ++ [v] := by
  obtain ⟨hk, rfl⟩ := List.getElem?_eq_some_iff.1 h
  exact List.take_succ_eq_append_getElem hk
theorem ids_apart {vs : List Vx} (h : ∀ i v, vs[i]? = some v → VOk vs i v) : vs.Pairwise (fun u v => u.id ≠ v.id) := by
  rw [List.pairwise_iff_getElem]
  intro i j hi hj hij
  have h2 := id_new (k := j) (v := vs[j]) (fun i v _ hv => h i v hv) (List.getElem?_eq_getElem hj) (h j _ (List.getElem?_eq_getElem hj)).rise vs[i] (by
    rw [List.mem_iff_getElem?]
    exact ⟨i, by rw [List.getElem?_take_of_lt hij]; exact List.getElem?_eq_getElem hi⟩)
  omega
end Go.Proofs.Ythopjhifepijiaa
