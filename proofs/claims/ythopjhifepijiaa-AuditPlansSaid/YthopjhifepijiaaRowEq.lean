/- Rows of tables, held against each other. -/
import Derived.Test.YthopjhifepijiaaRows
import Derived.Test.YthopjhifepijiaaArrEq
import Derived.Test.YthopjhifepijiaaKit
namespace Go.Proofs.Ythopjhifepijiaa
open Go.RowKit
set_option linter.unusedVariables false
section
variable (w : World)
theorem equal_half (d : Nat) (e f : Int) (a b : Bool) : (Op.equalIn (d + 2) 45 (.agg #[.int .i64 e, .bool a]) (.agg #[.int .i64 f, .bool b])).run Try.prog w = .ok (e == f && a == b) w := by
  simp [go_sem]
  by_cases h1 : e = f <;> by_cases h2 : a = b <;> simp [h1, h2]
theorem equal_pair (d : Nat) (a b c e : Int) : (Op.equalIn (d + 2) 79 (.agg #[.int .i64 a, .int .i64 b]) (.agg #[.int .i64 c, .int .i64 e])).run Try.prog w = .ok (a == c && b == e) w := by
  have := equalIn_ints (P := Try.prog) w d 79 3 2 .i64 Try.underlying79 Try.underlying3 (fun _ => by kernel_rfl) [a, b] [c, e] rfl rfl
  simp only [List.map_cons, List.map_nil] at this
  rw [this]
  have : ([a, b] == [c, e]) = (a == c && b == e) := by
    by_cases h1 : a = c <;> by_cases h2 : b = e <;> simp [h1, h2]
  rw [this]
theorem equal_halves (d : Nat) (a0 a1 b0 b1 : Int) (x0 x1 y0 y1 : Bool) : (Op.equalIn (d + 3) 78 (.agg #[.int .i64 a0, .bool x0, .int .i64 a1, .bool x1]) (.agg #[.int .i64 b0, .bool y0, .int .i64 b1, .bool y1])).run Try.prog w = .ok ((a0 == b0 && x0 == y0) && (a1 == b1 && x1 == y1)) w := by
  have hsz : ∀ w, (sizeOf 45).run Try.prog w = .ok 2 w := fun _ => by kernel_rfl
  rw [Op.equalIn]
  simp only [Sem.run_bind, run_underlying Try.underlying78, Result.andThen_ok, hsz, Std.Legacy.Range.forIn_eq_forIn_range', Std.Legacy.Range.size, Nat.sub_zero, Nat.add_sub_cancel, Nat.div_one]
  rw [show List.range' 0 2 = [0, 1] from rfl]
  have pt (e f : Int) (a b : Bool) : ∀ w, (part 45 #[Value.int .i64 e, .bool a, .int .i64 f, .bool b] (0 * 2)).run Try.prog w = .ok (.agg #[.int .i64 e, .bool a]) w := fun _ => by kernel_rfl
  have pu (e f : Int) (a b : Bool) : ∀ w, (part 45 #[Value.int .i64 e, .bool a, .int .i64 f, .bool b] (1 * 2)).run Try.prog w = .ok (.agg #[.int .i64 f, .bool b]) w := fun _ => by kernel_rfl
  have pt' (e f : Int) (a b : Bool) : ∀ w, (part 45 #[Value.int .i64 e, .bool a, .int .i64 f, .bool b] 0).run Try.prog w = .ok (.agg #[.int .i64 e, .bool a]) w := fun _ => by kernel_rfl
  have pu' (e f : Int) (a b : Bool) : ∀ w, (part 45 #[Value.int .i64 e, .bool a, .int .i64 f, .bool b] 2).run Try.prog w = .ok (.agg #[.int .i64 f, .bool b]) w := fun _ => by kernel_rfl
  simp only [List.forIn_cons, List.forIn_nil, Sem.run_bind, pt, pu, equal_half, Result.andThen_ok]
  cases h1 : (a0 == b0 && x0 == y0)
  · simp
  · simp only [Bool.not_true, Bool.false_eq_true, if_false, Sem.run_pure, Result.andThen_ok, Bool.true_and]
    cases h2 : (a1 == b1 && x1 == y1)
    · simp [pu', equal_half, h2]
    · simp [pu', equal_half, h2]
/-- A row of an edge. -/
structure ER where
  id : Int
  a : Int
  b : Int
  n0 : Int
  m0 : Bool
  n1 : Int
  m1 : Bool
  p0 : Int
  q0 : Bool
  p1 : Int
  q1 : Bool
  f0 : Int
  f1 : Int
deriving DecidableEq
def erB (x y : ER) : Bool := (x.id == y.id && (x.a == y.a && (x.b == y.b && (((x.n0 == y.n0 && x.m0 == y.m0) && (x.n1 == y.n1 && x.m1 == y.m1)) && (((x.p0 == y.p0 && x.q0 == y.q0) && (x.p1 == y.p1 && x.q1 == y.q1)) && (x.f0 == y.f0 && x.f1 == y.f1))))))
set_option maxRecDepth 100000 in
set_option maxHeartbeats 2000000 in
theorem equal_erow (x y : ER) : (binOp .eql 81 (.agg #[.int .i64 x.id, .int .i64 x.a, .int .i64 x.b, .int .i64 x.n0, .bool x.m0, .int .i64 x.n1, .bool x.m1, .int .i64 x.p0, .bool x.q0, .int .i64 x.p1, .bool x.q1, .int .i64 x.f0, .int .i64 x.f1])
    (.agg #[.int .i64 y.id, .int .i64 y.a, .int .i64 y.b, .int .i64 y.n0, .bool y.m0, .int .i64 y.n1, .bool y.m1, .int .i64 y.p0, .bool y.q0, .int .i64 y.p1, .bool y.q1, .int .i64 y.f0, .int .i64 y.f1])).run Try.prog w = .ok (.bool (erB x y)) w := by
  have h78 : ∀ (d : Nat) (a0 a1 b0 b1 : Int) (x0 x1 y0 y1 : Bool), (Op.equalIn (d + 3) 78 (.agg #[.int .i64 a0, .bool x0, .int .i64 a1, .bool x1]) (.agg #[.int .i64 b0, .bool y0, .int .i64 b1, .bool y1])).run Try.prog w = .ok ((a0 == b0 && x0 == y0) && (a1 == b1 && x1 == y1)) w := fun d => equal_halves w d
  have h79 := fun d => equal_pair w d
  simp [go_sem, h78, h79]
  by_cases h0 : x.id = y.id
  rotate_left
  · simp [erB, h0]
  by_cases h1 : x.a = y.a
  rotate_left
  · simp [erB, h0, h1]
  by_cases h2 : x.b = y.b
  rotate_left
  · simp [erB, h0, h1, h2]
  by_cases h3 : x.n0 = y.n0
  rotate_left
  · simp [erB, h0, h1, h2, h3]
  by_cases h4 : x.m0 = y.m0
  rotate_left
  · simp [erB, h0, h1, h2, h3, h4]
  by_cases h5 : x.n1 = y.n1
  rotate_left
  · simp [erB, h0, h1, h2, h3, h4, h5]
  by_cases h6 : x.m1 = y.m1
  rotate_left
  · simp [erB, h0, h1, h2, h3, h4, h5, h6]
  by_cases h7 : x.p0 = y.p0
  rotate_left
  · simp [erB, h0, h1, h2, h3, h4, h5, h6, h7]
  by_cases h8 : x.q0 = y.q0
  rotate_left
  · simp [erB, h0, h1, h2, h3, h4, h5, h6, h7, h8]
  by_cases h9 : x.p1 = y.p1
  rotate_left
  · simp [erB, h0, h1, h2, h3, h4, h5, h6, h7, h8, h9]
  by_cases h10 : x.q1 = y.q1
  rotate_left
  · simp [erB, h0, h1, h2, h3, h4, h5, h6, h7, h8, h9, h10]
  by_cases h11 : x.f0 = y.f0
  rotate_left
  · simp [erB, h0, h1, h2, h3, h4, h5, h6, h7, h8, h9, h10, h11]
  by_cases h12 : x.f1 = y.f1
  rotate_left
  · simp [erB, h0, h1, h2, h3, h4, h5, h6, h7, h8, h9, h10, h11, h12]
  simp [erB, h0, h1, h2, h3, h4, h5, h6, h7, h8, h9, h10, h11, h12]
theorem erB_iff {x y : ER} : erB x y = true ↔ x = y := by
  cases x
  cases y
  simp [erB, and_assoc]
/-- A row of a vertex. -/
structure VR where
  id : Int
  x : Int
  y : Int
  f : Int
deriving DecidableEq
theorem equal_vrow (a b : VR) : (binOp .eql 141 (.agg #[.int .i64 a.id, .int .i64 a.x, .int .i64 a.y, .int .i64 a.f]) (.agg #[.int .i64 b.id, .int .i64 b.x, .int .i64 b.y, .int .i64 b.f])).run Try.prog w = .ok (.bool (decide (a = b))) w := by
  cases a with | mk a1 a2 a3 a4 =>
  cases b with | mk b1 b2 b3 b4 =>
  simp [go_sem]
  by_cases h1 : a1 = b1 <;> by_cases h2 : a2 = b2 <;> by_cases h3 : a3 = b3 <;> by_cases h4 : a4 = b4 <;> simp [h1, h2, h3, h4]
end
end Go.Proofs.Ythopjhifepijiaa
