/- Boxes of points that a call lays, and what stays known of them behind calls that make memory. -/
import Derived.Test.YthopjhifepijiaaGeo2
import Derived.Test.YthopjhifepijiaaTail
import Derived.Test.YthopjhifepijiaaFrame
import Derived.BigQuiet
namespace Go.Proofs.Ythopjhifepijiaa
open Go.RowKit
set_option linter.unusedVariables false
theorem wp_name {P : Program} {c : Code} {Q : Exit → Act → World → Prop} {a : Act} {w : World} (h : ∀ W, w = W → c.wp P Q a W) : c.wp P Q a w := h w rfl
theorem calls_name {P : Program} {f : FuncId} {args : Array Value} {w : World} {Q : Ending → World → Prop} (h : ∀ W, w = W → Calls P f args W Q) : Calls P f args w Q := h w rfl
theorem below_name {B : Nat} {a b c : World} (h : Below B a b) (e : b = c) : Below B a c := e ▸ h
theorem box_end {w W W' : World} (hb : Below W.heap.size W W') (h : Below w.heap.size w W) : Below w.heap.size w W' := below_step hb h

theorem touch_cell {F : List Nat} {w w' : World} {b o : Nat} (h : Touch F w w') (hb : b < w.heap.size) (hF : b ∉ F) : w'.cell? ⟨b, o, none⟩ = w.cell? ⟨b, o, none⟩ := World.cell?_of_block (w := w) (h.block hb hF)
theorem touch_in {F G : List Nat} {W wr W2 W1 : World} (h : Touch F W wr) (h2 : Below wr.heap.size wr W2) (h3 : Touch G W2 W1) (hG : ∀ b ∈ G, b ∈ F ∨ W.heap.size ≤ b) : Touch F W W1 := (h.trans (Touch.of_below (F := F) h2) (fun b hb => .inl hb)).trans h3 hG
theorem touch_next {F : List Nat} {W a b c : World} (h : Touch F W a) (k : Below a.heap.size a b) (hb : Below b.heap.size b c) : Touch F W c := (h.trans (Touch.of_below (F := F) k) (fun b hb => .inl hb)).trans (Touch.of_below (F := F) hb) (fun b hb => .inl hb)
theorem touch_name {F : List Nat} {W a b c : World} (h : Touch F W a) (k : Below a.heap.size a b) (e : b = c) : Touch F W c := e ▸ h.trans (Touch.of_below (F := F) k) (fun b hb => .inl hb)
theorem touch_later {F : List Nat} {W a b : World} (h : Touch F W a) (hb : Below a.heap.size a b) : Touch F W b := h.trans (Touch.of_below (F := F) hb) (fun b hb => .inl hb)
theorem touch_grown {F : List Nat} {W a b c : World} {r : Nat} (h : Touch F W a) (k : Below a.heap.size a b) (hg : b.grownBy c (some r)) (hr : r ∈ F) : Touch F W c :=
  (h.trans (Touch.of_below (F := F) k) (fun b hb => .inl hb)).trans (Touch.of_grown hg) (fun b hb => .inl (by simp at hb; subst hb; exact hr))
theorem args_touch {B : Nat} {F : List Nat} {w W W1 : World} (hW : Below w.heap.size w W) (hb : Touch F W W1) (hF : ∀ b ∈ F, w.heap.size ≤ b) (h1 : B ≤ w.heap.size) : Below B w W1 := (hW.trans (Touch.below hb hW.size hF)).mono h1
theorem in_of {B B2 : Nat} {W wr W2 W1 : World} (h : Below B W wr) (h2 : Below wr.heap.size wr W2) (h3 : Below B2 W2 W1) (s1 : B ≤ wr.heap.size) (s2 : B ≤ B2) : Below B W W1 := (h.trans (h2.mono s1)).trans (h3.mono s2)
theorem later_below {w w' : World} (h : ∃ x : Later w, w' = x.1) : Below w.heap.size w w' := h.elim fun x e => e ▸ x.2
theorem args_below {B B0 : Nat} {w W W1 : World} (hW : Below w.heap.size w W) (hb : Below B0 W W1) (h1 : B ≤ w.heap.size) (h2 : w.heap.size ≤ B0) : Below B w W1 := (hW.mono h1).trans (hb.mono (Nat.le_trans h1 h2))
/-- A point's cells. -/
abbrev ptC (p : Pt) : Obj := .cells #[.int .i64 p.x, .int .i64 p.y] 51
theorem ptc_new (w : World) (p : Pt) : (w.alloc (ptC p)).cell? ⟨w.heap.size, 0, none⟩ = some (.int .i64 p.x) ∧ (w.alloc (ptC p)).cell? ⟨w.heap.size, 1, none⟩ = some (.int .i64 p.y) := by simp [World.cell?_alloc_new]
abbrev boxW1 (w : World) (a : Pt) : World := w.alloc (ptC a)
abbrev boxW2 (w : World) (a b : Pt) : World := (w.alloc (ptC a)).alloc (ptC b)
abbrev boxW3 (w : World) (a b c : Pt) : World := ((w.alloc (ptC a)).alloc (ptC b)).alloc (ptC c)
abbrev boxW4 (w : World) (a b c d : Pt) : World := (((w.alloc (ptC a)).alloc (ptC b)).alloc (ptC c)).alloc (ptC d)
theorem box1_start (w : World) (a : Pt) : Below (boxW1 w a).heap.size (boxW1 w a) (boxW1 w a) := Below.refl _ _
theorem box2_start (w : World) (a b : Pt) : Below (boxW2 w a b).heap.size (boxW2 w a b) (boxW2 w a b) := Below.refl _ _
theorem box3_start (w : World) (a b c : Pt) : Below (boxW3 w a b c).heap.size (boxW3 w a b c) (boxW3 w a b c) := Below.refl _ _
theorem box4_start (w : World) (a b c d : Pt) : Below (boxW4 w a b c d).heap.size (boxW4 w a b c d) (boxW4 w a b c d) := Below.refl _ _
theorem box1 (w : World) (a : Pt) {W : World} (hb : Below (boxW1 w a).heap.size (boxW1 w a) W) : W.cell? ⟨w.heap.size, 0, none⟩ = some (.int .i64 a.x) ∧ W.cell? ⟨w.heap.size, 1, none⟩ = some (.int .i64 a.y) := by
  refine ⟨(hb.cell (p := ⟨w.heap.size, 0, none⟩) (by simp)).trans ?_, (hb.cell (p := ⟨w.heap.size, 1, none⟩) (by simp)).trans ?_⟩
  all_goals simp [boxW1, World.cell?_alloc_new]
theorem box2 (w : World) (a b : Pt) {W : World} (hb : Below (boxW2 w a b).heap.size (boxW2 w a b) W) : W.cell? ⟨w.heap.size, 0, none⟩ = some (.int .i64 a.x) ∧ W.cell? ⟨w.heap.size, 1, none⟩ = some (.int .i64 a.y) ∧ W.cell? ⟨w.heap.size + 1, 0, none⟩ = some (.int .i64 b.x) ∧ W.cell? ⟨w.heap.size + 1, 1, none⟩ = some (.int .i64 b.y) := by
  have h1 := box1 (w.alloc (ptC a)) b hb
  have e : (w.alloc (ptC a)).heap.size = w.heap.size + 1 := by simp
  rw [e] at h1
  have h0 := box1 w a (W := W) ((below_alloc (Below.refl _ _)).trans (hb.mono (by simp)))
  exact ⟨h0.1, h0.2, h1.1, h1.2⟩
theorem box3 (w : World) (a b c : Pt) {W : World} (hb : Below (boxW3 w a b c).heap.size (boxW3 w a b c) W) : W.cell? ⟨w.heap.size, 0, none⟩ = some (.int .i64 a.x) ∧ W.cell? ⟨w.heap.size, 1, none⟩ = some (.int .i64 a.y) ∧ W.cell? ⟨w.heap.size + 1, 0, none⟩ = some (.int .i64 b.x) ∧ W.cell? ⟨w.heap.size + 1, 1, none⟩ = some (.int .i64 b.y) ∧
    W.cell? ⟨w.heap.size + 1 + 1, 0, none⟩ = some (.int .i64 c.x) ∧ W.cell? ⟨w.heap.size + 1 + 1, 1, none⟩ = some (.int .i64 c.y) := by
  have h1 := box2 (w.alloc (ptC a)) b c hb
  have e : (w.alloc (ptC a)).heap.size = w.heap.size + 1 := by simp
  rw [e] at h1
  have h0 := box1 w a (W := W) ((below_alloc (below_alloc (Below.refl _ _))).trans (hb.mono (by simp)))
  exact ⟨h0.1, h0.2, h1.1, h1.2.1, h1.2.2.1, h1.2.2.2⟩
theorem box4 (w : World) (a b c d : Pt) {W : World} (hb : Below (boxW4 w a b c d).heap.size (boxW4 w a b c d) W) : W.cell? ⟨w.heap.size, 0, none⟩ = some (.int .i64 a.x) ∧ W.cell? ⟨w.heap.size, 1, none⟩ = some (.int .i64 a.y) ∧ W.cell? ⟨w.heap.size + 1, 0, none⟩ = some (.int .i64 b.x) ∧ W.cell? ⟨w.heap.size + 1, 1, none⟩ = some (.int .i64 b.y) ∧
    W.cell? ⟨w.heap.size + 1 + 1, 0, none⟩ = some (.int .i64 c.x) ∧ W.cell? ⟨w.heap.size + 1 + 1, 1, none⟩ = some (.int .i64 c.y) ∧ W.cell? ⟨w.heap.size + 1 + 1 + 1, 0, none⟩ = some (.int .i64 d.x) ∧ W.cell? ⟨w.heap.size + 1 + 1 + 1, 1, none⟩ = some (.int .i64 d.y) := by
  have h1 := box3 (w.alloc (ptC a)) b c d hb
  have e : (w.alloc (ptC a)).heap.size = w.heap.size + 1 := by simp
  rw [e] at h1
  have h0 := box1 w a (W := W) ((below_alloc (below_alloc (below_alloc (Below.refl _ _)))).trans (hb.mono (by simp)))
  exact ⟨h0.1, h0.2, h1.1, h1.2.1, h1.2.2.1, h1.2.2.2.1, h1.2.2.2.2.1, h1.2.2.2.2.2⟩

/-- Two points, held against each other. -/
theorem eq_pt (a b : Pt) (w : World) : (binOp .eql 51 (.agg #[.int .i64 a.x, .int .i64 a.y]) (.agg #[.int .i64 b.x, .int .i64 b.y])).run Try.prog w = .ok (.bool (decide (a = b))) w := by
  obtain ⟨ax, ay⟩ := a
  obtain ⟨bx, by_⟩ := b
  simp [go_sem]
  by_cases h1 : ax = bx <;> by_cases h2 : ay = by_ <;> simp [h1, h2]
theorem eq_pt_t {a b : Pt} (h : decide (a = b) = true) (w : World) : (binOp .eql 51 (.agg #[.int .i64 a.x, .int .i64 a.y]) (.agg #[.int .i64 b.x, .int .i64 b.y])).run Try.prog w = .ok (.bool true) w := h ▸ eq_pt a b w
theorem eq_pt_f {a b : Pt} (h : decide (a = b) = false) (w : World) : (binOp .eql 51 (.agg #[.int .i64 a.x, .int .i64 a.y]) (.agg #[.int .i64 b.x, .int .i64 b.y])).run Try.prog w = .ok (.bool false) w := h ▸ eq_pt a b w
end Go.Proofs.Ythopjhifepijiaa
