/- Lemmas on the way to the statement: Structs, Acts11Open. -/
import Derived.Test.YtpaholkmlfaflaaGreatDoorJ1
import Derived.Deep.Slices
import Derived.Deep.Fields
import Derived.ChangeSame
import Derived.Lib.SmallJoins
import Derived.Carry
import Derived.OpenShut
import Derived.SizedLaws
import Derived.Test.YtpaholkmlfaflaaGreatDoorJ16
import Derived.ProofKit
set_option linter.unusedSimpArgs false
set_option linter.unusedVariables false
namespace Go.Proofs.YtpaholkmlfaflaaGreatDoor
open Go.ChangeShapes Go.WideShapes Go.Deep Go.Joins Go.RowKit
set_option linter.unusedVariables false

section
variable {H : Type} {enc : TypeId × Value → H} {P : Program} {w : World} {base : Nat} {spare : Nat → Bool} {held : Bool}
theorem open_slice_fields {t e : TypeId} {fs : Array Field} {fuel : Nat} {cs : List Value} {x : DataW H × List MemPlace} (ht : P.underlying t = some (.slice e)) (he : P.underlying e = some (.struct fs))
    (hone : oneCellFields P fs = true) (hC : P.cellsOf e = fs.size) (h : DataW.trod enc P w base spare held fuel t cs = some x) :
    (cs = [.slice none 0 0] ∧ x = (.nil, [])) ∨
    ∃ (a : Addr) (len cap m : Nat) (D : Nat → DataW H) (Pl : Nat → List MemPlace), cs = [.slice (some a) len cap] ∧ base ≤ a.block ∧ len ≤ cap ∧ cap ≤ maxLen ∧ m = (if spare a.block then cap else len) ∧
      x = (.slice ((List.range len).map D) ((List.range (m - len)).map fun j => D (len + j)), MemPlace.row a (m * fs.size) ++ (List.range m).flatMap Pl) ∧
      ∀ i, i < m → ∃ (ys : List (DataW H × List MemPlace)) (n : Nat), D i = .agg (ys.map (·.1)) ∧ Pl i = ys.flatMap (·.2) ∧ ys.length = fs.size ∧
        ∀ (j : Nat) (f : Field), fs[j]? = some f → ∃ (v : Value) (y : DataW H × List MemPlace), w.cell? (a.add (i * fs.size + j)) = some v ∧ ys[j]? = some y ∧ DataW.trod enc P w base spare held n f.type [v] = some y := by
  rcases open_slice ht h with h0 | ⟨a, len, cap, m, n, D, Pl, hcs, hb, hl, hm, hmm, hx, hi⟩
  · exact .inl h0
  · refine .inr ⟨a, len, cap, m, D, Pl, hcs, hb, hl, hm, hmm, by rw [hC] at hx; exact hx, fun i him => ?_⟩
    obtain ⟨cs', hc, ht'⟩ := hi i him
    rw [hC] at hc
    obtain ⟨ys, n', hn', hy, hlen, hyl, hf⟩ := DataW.trod_struct he ht'
    obtain ⟨_, hcl, hat⟩ := World.cells?_some hc
    simp only [Prod.mk.injEq] at hy
    refine ⟨ys, n', hy.1, hy.2, hyl, fun j f hj => ?_⟩
    obtain ⟨ho, hk⟩ := hone_of hone j f hj
    have hjl : j < fs.size := (Array.getElem?_eq_some_iff.1 hj).1
    have hcell := hat j hjl
    have hv : cs'[j]? = some (cs'[j]'(by omega)) := List.getElem?_eq_getElem (by omega)
    have h1 := hf j f hj
    rw [ho, hk] at h1
    have hone' : (cs'.drop j).take 1 = [cs'[j]'(by omega)] := by
      rw [List.drop_eq_getElem_cons (by omega)]
      rfl
    rw [hone'] at h1
    have hys : ys[j]? = some (ys[j]'(by omega)) := List.getElem?_eq_getElem (by omega)
    refine ⟨_, _, ?_, hys, h1.trans hys⟩
    rw [← Go.Deep.add_add, hcell, hv]
end

section
variable {H : Type} {enc : TypeId × Value → H} {P : Program} {w : World} {base : Nat} {spare : Nat → Bool} {held : Bool}
theorem open_agg6 {r : Reach} {b0 : Nat} {t : TypeId} {f0 f1 f2 f3 f4 f5 : Field} {v : Value} {d : DataW H} {p : List MemPlace} (hs : P.underlying t = some (.struct #[f0, f1, f2, f3, f4, f5])) (hone : oneCellFields P #[f0, f1, f2, f3, f4, f5] = true) (hC : P.cellsOf t = 6)
    (hv : Value.okWide P w r b0 t v) (h : DataW.Trod enc P w base spare held t v d p) :
    ∃ (v0 v1 v2 v3 v4 v5 : Value) (y0 y1 y2 y3 y4 y5 : DataW H × List MemPlace) (n : Nat), v = .agg #[v0, v1, v2, v3, v4, v5] ∧ d = .agg [y0.1, y1.1, y2.1, y3.1, y4.1, y5.1] ∧ p = y0.2 ++ (y1.2 ++ (y2.2 ++ (y3.2 ++ (y4.2 ++ y5.2)))) ∧
      DataW.trod enc P w base spare held n f0.type [v0] = some y0 ∧ DataW.trod enc P w base spare held n f1.type [v1] = some y1 ∧ DataW.trod enc P w base spare held n f2.type [v2] = some y2 ∧ DataW.trod enc P w base spare held n f3.type [v3] = some y3 ∧ DataW.trod enc P w base spare held n f4.type [v4] = some y4 ∧ DataW.trod enc P w base spare held n f5.type [v5] = some y5 := by
  obtain ⟨cs, rfl, hsz⟩ := okWide_struct hs hv
  obtain ⟨l⟩ := cs
  match l, hsz.trans hC with
  | [c0, c1, c2, c3, c4, c5], _ =>
    obtain ⟨fuel, hf⟩ := h
    obtain ⟨xs, n, _, hx, _, hlen, hg⟩ := DataW.trod_struct hs hf
    obtain ⟨o0, k0⟩ := hone_of hone 0 f0 rfl
    obtain ⟨o1, k1⟩ := hone_of hone 1 f1 rfl
    obtain ⟨o2, k2⟩ := hone_of hone 2 f2 rfl
    obtain ⟨o3, k3⟩ := hone_of hone 3 f3 rfl
    obtain ⟨o4, k4⟩ := hone_of hone 4 f4 rfl
    obtain ⟨o5, k5⟩ := hone_of hone 5 f5 rfl
    match xs, hlen with
    | [y0, y1, y2, y3, y4, y5], _ =>
      simp only [Prod.mk.injEq] at hx
      exact ⟨c0, c1, c2, c3, c4, c5, y0, y1, y2, y3, y4, y5, n, rfl, by simpa using hx.1, by simpa using hx.2, by simpa [Value.cells, o0, k0] using hg 0 f0 rfl, by simpa [Value.cells, o1, k1] using hg 1 f1 rfl, by simpa [Value.cells, o2, k2] using hg 2 f2 rfl, by simpa [Value.cells, o3, k3] using hg 3 f3 rfl, by simpa [Value.cells, o4, k4] using hg 4 f4 rfl, by simpa [Value.cells, o5, k5] using hg 5 f5 rfl⟩
end

/-- All arguments read behind the call as before it. -/
theorem trodAll_keep {H : Type} {enc : TypeId × Value → H} {P : Program} (hl : laidOutB P = true) {W W' : World} (hb : Below W.heap.size W W') {sp : Nat → Bool} :
    ∀ (ts : List TypeId) (vs : List Value) (ds : List (DataW H)) (p : List MemPlace), ts.all (fun t => P.readableRec t && decide (t < P.types.size)) = true → DataW.TrodAll enc P W 0 (fun _ => true) true ts vs ds p →
      (∀ x ∈ p, x.block < W.heap.size) → (∀ x ∈ p, sp x.block = true) → DataW.TrodAll enc P W' 0 sp true ts vs ds p
  | [], [], [], p, _, h, _, _ => h
  | [], [], _ :: _, p, _, h, _, _ => h.elim
  | [], _ :: _, _, p, _, h, _, _ => h.elim
  | _ :: _, [], _, p, _, h, _, _ => h.elim
  | _ :: _, _ :: _, [], p, _, h, _, _ => h.elim
  | t :: ts, v :: vs, d :: ds, p, ha, h, hlt, hsp => by
    obtain ⟨p1, q, h1, h2, rfl⟩ := h
    simp only [List.all_cons, Bool.and_eq_true, decide_eq_true_eq] at ha
    exact ⟨p1, q, WideElems.Trod_stays hl ha.1.1 ha.1.2 h1 (fun x hx => hb.same (hlt x (by simp [hx]))) (fun x hx => hsp x (by simp [hx])),
      trodAll_keep hl hb ts vs ds q (by simpa using ha.2) h2 (fun x hx => hlt x (by simp [hx])) (fun x hx => hsp x (by simp [hx])), rfl⟩

end Go.Proofs.YtpaholkmlfaflaaGreatDoor

namespace Go.Proofs.YtpaholkmlfaflaaGreatDoor
open Go.ChangeShapes Go.WideShapes Go.ChangeAt Go.RowKit Go.Deep Go.Joins
set_option linter.unusedVariables false

theorem bd_i64 {x : Int} (h : (Lit.int .i64 x).wf = true) : -9223372036854775808 ≤ x ∧ x ≤ 9223372036854775807 := by
  simp [Lit.wf, IntKind.min, IntKind.max, IntKind.signed, IntKind.bits] at h
  omega
theorem bd_u16 {x : Int} (h : (Lit.int .u16 x).wf = true) : 0 ≤ x ∧ x ≤ 65535 := by
  simp [Lit.wf, IntKind.min, IntKind.max, IntKind.signed, IntKind.bits] at h
  omega
theorem bd_u8 {x : Int} (h : (Lit.int .u8 x).wf = true) : 0 ≤ x ∧ x ≤ 255 := by
  simp [Lit.wf, IntKind.min, IntKind.max, IntKind.signed, IntKind.bits] at h
  omega

section
variable {H : Type} {enc : TypeId × Value → H} {W : World}
/-- A slice of bools. -/
theorem open_keep {n : Nat} {v : Value} {y : DataW H × List MemPlace} (h : DataW.trod enc Tryz.prog W 0 (fun _ => true) true n 41 [v] = some y) :
    ∃ a kn kc kf, v = .slice a kn kc ∧ kn ≤ 9223372036854775807 ∧ KeepAt W a kn kf ∧ ∀ b off, a = some ⟨b, off, none⟩ → 0 < kn → b < W.heap.size := by
  rcases open_slice1 Tryz.underlying41 (by kernel_rfl) h with ⟨e, _⟩ | ⟨a, len, cap, m, n', V, D, Pl, e, _, hl, hm, hmm, _, hc⟩
  · simp at e; exact ⟨none, 0, 0, fun _ => false, e, by omega, .inl rfl, fun _ _ h => by cases h⟩
  · simp at e
    simp only [if_true] at hmm
    subst hmm
    have hm' : m ≤ 9223372036854775807 := hm
    by_cases h0 : len = 0
    · exact ⟨some a, len, m, fun _ => false, e, by omega, .inl h0, fun _ _ _ h => by omega⟩
    · obtain ⟨b, off, sp⟩ := a
      have hs : sp = none := by simpa [Addr.add] using World.cell?_spot (hc 0 (by omega)).1
      subst hs
      have hV : ∀ i, i < len → ∃ x, V i = .bool x := fun i hi => by
        obtain ⟨x, hx, _⟩ := DataW.trod_bool Tryz.underlying4 (hc i (by omega)).2
        simp at hx; exact ⟨x, hx⟩
      refine ⟨_, len, m, fun i => match V i with | .bool x => x | _ => false, e, by omega, .inr ⟨b, off, rfl, fun i hi => ?_⟩, fun b' off' hb' _ => ?_⟩
      · obtain ⟨x, hx⟩ := hV i hi
        have := (hc i (by omega)).1
        rw [addr_add] at this
        rw [this]
        simp only [hx]
      · cases hb'
        have := (hc 0 (by omega)).1
        rw [addr_add] at this
        exact cell_lt this

/-- One act. -/
theorem open_act {lb o n : Nat} {v0 v1 v2 v3 v4 v5 v6 v7 v8 : Value} {y0 y1 y2 y3 y4 y5 y6 y7 y8 : DataW H × List MemPlace}
    (h0 : W.cell? ⟨lb, o, none⟩ = some v0) (h1 : W.cell? ⟨lb, o + 1, none⟩ = some v1) (h2 : W.cell? ⟨lb, o + 2, none⟩ = some v2) (h3 : W.cell? ⟨lb, o + 3, none⟩ = some v3) (h4 : W.cell? ⟨lb, o + 4, none⟩ = some v4) (h5 : W.cell? ⟨lb, o + 5, none⟩ = some v5) (h6 : W.cell? ⟨lb, o + 6, none⟩ = some v6) (h7 : W.cell? ⟨lb, o + 7, none⟩ = some v7) (h8 : W.cell? ⟨lb, o + 8, none⟩ = some v8)
    (g0 : DataW.trod enc Tryz.prog W 0 (fun _ => true) true n 5 [v0] = some y0)
    (g1 : DataW.trod enc Tryz.prog W 0 (fun _ => true) true n 5 [v1] = some y1)
    (g2 : DataW.trod enc Tryz.prog W 0 (fun _ => true) true n 5 [v2] = some y2)
    (g3 : DataW.trod enc Tryz.prog W 0 (fun _ => true) true n 3 [v3] = some y3)
    (g4 : DataW.trod enc Tryz.prog W 0 (fun _ => true) true n 3 [v4] = some y4)
    (g5 : DataW.trod enc Tryz.prog W 0 (fun _ => true) true n 56 [v5] = some y5)
    (g6 : DataW.trod enc Tryz.prog W 0 (fun _ => true) true n 41 [v6] = some y6)
    (g7 : DataW.trod enc Tryz.prog W 0 (fun _ => true) true n 3 [v7] = some y7)
    (g8 : DataW.trod enc Tryz.prog W 0 (fun _ => true) true n 3 [v8] = some y8) :
    ∃ x, ActAt W W.heap.size ⟨lb, o, none⟩ x := by
  obtain ⟨a0, e0, _, w0⟩ := DataW.trod_int Tryz.underlying5 g0
  obtain ⟨a1, e1, _, w1⟩ := DataW.trod_int Tryz.underlying5 g1
  obtain ⟨a2, e2, _, w2⟩ := DataW.trod_int Tryz.underlying5 g2
  obtain ⟨a3, e3, _, w3⟩ := DataW.trod_int Tryz.underlying3 g3
  obtain ⟨a4, e4, _, w4⟩ := DataW.trod_int Tryz.underlying3 g4
  obtain ⟨a5, e5, _, w5⟩ := DataW.trod_int Tryz.underlying56 g5
  obtain ⟨a7, e7, _, w7⟩ := DataW.trod_int Tryz.underlying3 g7
  obtain ⟨a8, e8, _, w8⟩ := DataW.trod_int Tryz.underlying3 g8
  obtain ⟨ka, kn, kc, kf, rfl, k1, k2, k3⟩ := open_keep g6
  simp only [List.cons.injEq, and_true] at e0 e1 e2 e3 e4 e5 e7 e8
  subst e0 e1 e2 e3 e4 e5 e7 e8
  exact ⟨⟨a0, a1, a2, a3, a4, a5, ka, kn, kc, kf, a7, a8⟩, h0, by rw [addr_add]; exact h1, by rw [addr_add]; exact h2, by rw [addr_add]; exact h3, by rw [addr_add]; exact h4, by rw [addr_add]; exact h5, by rw [addr_add]; exact h6, by rw [addr_add]; exact h7, by rw [addr_add]; exact h8, k2, k3,
    ⟨bd_u8 w0, bd_u8 w1, bd_u8 w2, bd_i64 w3, bd_u16 w5, bd_i64 w4, k1, bd_i64 w7, bd_i64 w8⟩⟩

theorem list_of {α : Type} : ∀ (n : Nat) (P : Nat → α → Prop), (∀ i, i < n → ∃ x, P i x) → ∃ l : List α, l.length = n ∧ ∀ (i : Nat) (x : α), l[i]? = some x → P i x
  | 0, P, _ => ⟨[], rfl, fun i x h => by simp at h⟩
  | n + 1, P, h => by
    obtain ⟨l, hl, hP⟩ := list_of n P (fun i hi => h i (by omega))
    obtain ⟨x, hx⟩ := h n (by omega)
    refine ⟨l ++ [x], by simp [hl], fun i y hy => ?_⟩
    by_cases hi : i < n
    · rw [List.getElem?_append_left (by omega)] at hy; exact hP i y hy
    · have hlt := (List.getElem?_eq_some_iff.1 hy).1
      simp [hl] at hlt
      obtain rfl : i = n := by omega
      rw [List.getElem?_append_right (by omega), hl] at hy
      simp at hy; subst hy; exact hx

set_option maxRecDepth 100000 in
/-- The argument. -/
theorem open_acts {v : Value} {d : DataW H} {p : List MemPlace} (hv : Value.okWide Tryz.prog W .any 0 53 v) (h : DataW.Trod enc Tryz.prog W 0 (fun _ => true) true 53 v d p) :
    ∃ a n c l, v = .slice a n c ∧ ActsIn W W.heap.size a n l := by
  obtain ⟨a0, len0, cap0, rfl⟩ := okWide_slice Tryz.underlying53 hv
  obtain ⟨fuel, hf⟩ := h
  rcases open_slice_fields Tryz.underlying53 Tryz.underlying58 (by kernel_rfl) (by kernel_rfl) hf with ⟨e, _⟩ | ⟨a, len, cap, m, D, Pl, e, _, hl, hm, hmm, _, hi⟩
  · simp [Value.cells] at e
    obtain ⟨rfl, rfl, rfl⟩ := e
    exact ⟨_, _, _, [], rfl, rfl, by omega, .inl rfl⟩
  · simp [Value.cells] at e
    obtain ⟨rfl, rfl, rfl⟩ := e
    simp only [if_true] at hmm
    subst hmm
    have hm' : m ≤ 9223372036854775807 := hm
    by_cases h0 : len0 = 0
    · subst h0; exact ⟨_, _, _, [], rfl, rfl, by omega, .inl rfl⟩
    · obtain ⟨lb, off, sp⟩ := a
      have hs : sp = none := by
        obtain ⟨ys, n, _, _, _, hf⟩ := hi 0 (by omega)
        obtain ⟨v, y, hc, _⟩ := hf 0 _ rfl
        simpa [Addr.add] using World.cell?_spot hc
      subst hs
      have hlb : lb < W.heap.size := by
        obtain ⟨ys, n, _, _, _, hf⟩ := hi 0 (by omega)
        obtain ⟨v, y, hc, _⟩ := hf 0 _ rfl
        rw [addr_add] at hc
        exact cell_lt hc
      obtain ⟨l, hl', hP⟩ := list_of len0 (fun i x => ActAt W W.heap.size ⟨lb, off + i * 9, none⟩ x) (fun i hlt => by
        obtain ⟨ys, n, _, _, _, hf⟩ := hi i (by omega)
        obtain ⟨v0, y0, c0, _, g0⟩ := hf 0 _ rfl
        obtain ⟨v1, y1, c1, _, g1⟩ := hf 1 _ rfl
        obtain ⟨v2, y2, c2, _, g2⟩ := hf 2 _ rfl
        obtain ⟨v3, y3, c3, _, g3⟩ := hf 3 _ rfl
        obtain ⟨v4, y4, c4, _, g4⟩ := hf 4 _ rfl
        obtain ⟨v5, y5, c5, _, g5⟩ := hf 5 _ rfl
        obtain ⟨v6, y6, c6, _, g6⟩ := hf 6 _ rfl
        obtain ⟨v7, y7, c7, _, g7⟩ := hf 7 _ rfl
        obtain ⟨v8, y8, c8, _, g8⟩ := hf 8 _ rfl
        rw [addr_add] at c0 c1 c2 c3 c4 c5 c6 c7 c8
        exact open_act (o := off + i * 9) c0 c1 c2 c3 c4 c5 c6 c7 c8 g0 g1 g2 g3 g4 g5 g6 g7 g8)
      exact ⟨_, _, _, l, rfl, hl'.symm, by omega, .inr ⟨lb, off, rfl, hlb, hP⟩⟩
end

end Go.Proofs.YtpaholkmlfaflaaGreatDoor

