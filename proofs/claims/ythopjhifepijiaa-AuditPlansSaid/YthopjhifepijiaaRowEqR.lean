/- Rows of the document's tables, and vertices and edges of plans, held against each other. -/
import Derived.Test.YthopjhifepijiaaEqual2
namespace Go.Proofs.Ythopjhifepijiaa
open Go.RowKit
set_option linter.unusedVariables false
section
variable (w : World)
set_option maxRecDepth 100000 in
set_option maxHeartbeats 2000000 in
theorem equal_erowR (x y : ER) : (binOp .eql 147 (.agg #[.int .i64 x.id, .int .i64 x.a, .int .i64 x.b, .int .i64 x.n0, .bool x.m0, .int .i64 x.n1, .bool x.m1, .int .i64 x.p0, .bool x.q0, .int .i64 x.p1, .bool x.q1, .int .i64 x.f0, .int .i64 x.f1])
    (.agg #[.int .i64 y.id, .int .i64 y.a, .int .i64 y.b, .int .i64 y.n0, .bool y.m0, .int .i64 y.n1, .bool y.m1, .int .i64 y.p0, .bool y.q0, .int .i64 y.p1, .bool y.q1, .int .i64 y.f0, .int .i64 y.f1])).run Try.prog w = .ok (.bool (erB x y)) w := by
  have h78 : ∀ (d : Nat) (a0 a1 b0 b1 : Int) (x0 x1 y0 y1 : Bool), (Op.equalIn (d + 3) 78 (.agg #[.int .i64 a0, .bool x0, .int .i64 a1, .bool x1]) (.agg #[.int .i64 b0, .bool y0, .int .i64 b1, .bool y1])).run Try.prog w = .ok ((a0 == b0 && x0 == y0) && (a1 == b1 && x1 == y1)) w := fun d => equal_halves w d
  have h79 := fun d => equal_pair w d
  simp [go_sem, h78, h79]
  by_cases h0 : x.id = y.id
  rotate_left
  · simp [erB, h0]
  by_cases h1 : x.a = y.a
  rotate_left
  · simp [erB, h0, h1]
  by_cases h2 : x.b = y.b
  rotate_left
  · simp [erB, h0, h1, h2]
  by_cases h3 : x.n0 = y.n0
  rotate_left
  · simp [erB, h0, h1, h2, h3]
  by_cases h4 : x.m0 = y.m0
  rotate_left
  · simp [erB, h0, h1, h2, h3, h4]
  by_cases h5 : x.n1 = y.n1
  rotate_left
  · simp [erB, h0, h1, h2, h3, h4, h5]
  by_cases h6 : x.m1 = y.m1
  rotate_left
  · simp [erB, h0, h1, h2, h3, h4, h5, h6]
  by_cases h7 : x.p0 = y.p0
  rotate_left
  · simp [erB, h0, h1, h2, h3, h4, h5, h6, h7]
  by_cases h8 : x.q0 = y.q0
  rotate_left
  · simp [erB, h0, h1, h2, h3, h4, h5, h6, h7, h8]
  by_cases h9 : x.p1 = y.p1
  rotate_left
  · simp [erB, h0, h1, h2, h3, h4, h5, h6, h7, h8, h9]
  by_cases h10 : x.q1 = y.q1
  rotate_left
  · simp [erB, h0, h1, h2, h3, h4, h5, h6, h7, h8, h9, h10]
  by_cases h11 : x.f0 = y.f0
  rotate_left
  · simp [erB, h0, h1, h2, h3, h4, h5, h6, h7, h8, h9, h10, h11]
  by_cases h12 : x.f1 = y.f1
  rotate_left
  · simp [erB, h0, h1, h2, h3, h4, h5, h6, h7, h8, h9, h10, h11, h12]
  simp [erB, h0, h1, h2, h3, h4, h5, h6, h7, h8, h9, h10, h11, h12]
theorem equal_vrowR (a b : VR) : (binOp .eql 146 (.agg #[.int .i64 a.id, .int .i64 a.x, .int .i64 a.y, .int .i64 a.f]) (.agg #[.int .i64 b.id, .int .i64 b.x, .int .i64 b.y, .int .i64 b.f])).run Try.prog w = .ok (.bool (decide (a = b))) w := by
  cases a with | mk a1 a2 a3 a4 =>
  cases b with | mk b1 b2 b3 b4 =>
  simp [go_sem]
  by_cases h1 : a1 = b1 <;> by_cases h2 : a2 = b2 <;> by_cases h3 : a3 = b3 <;> by_cases h4 : a4 = b4 <;> simp [h1, h2, h3, h4]
theorem equal_vx (a b c d e f : Int) : (binOp .eql 53 (.agg #[.int .i64 a, .int .i64 b, .int .i64 c]) (.agg #[.int .i64 d, .int .i64 e, .int .i64 f])).run Try.prog w = .ok (.bool (decide (a = d ∧ b = e ∧ c = f))) w := by
  simp [go_sem]
  by_cases h1 : a = d <;> by_cases h2 : b = e <;> by_cases h3 : c = f <;> simp [h1, h2, h3]
theorem equal_ed (a b c d e f : Int) : (binOp .eql 63 (.agg #[.int .i64 a, .int .i64 b, .int .i64 c]) (.agg #[.int .i64 d, .int .i64 e, .int .i64 f])).run Try.prog w = .ok (.bool (decide (a = d ∧ b = e ∧ c = f))) w := by
  simp [go_sem]
  by_cases h1 : a = d <;> by_cases h2 : b = e <;> by_cases h3 : c = f <;> simp [h1, h2, h3]
end
end Go.Proofs.Ythopjhifepijiaa
