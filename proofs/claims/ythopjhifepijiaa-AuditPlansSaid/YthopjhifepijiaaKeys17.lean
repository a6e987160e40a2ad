/- The keys of the maps of layers 15 to 18. -/
import Derived.Test.YthopjhifepijiaaRows
import Derived.Test.YthopjhifepijiaaMapT
namespace Go.Proofs.Ythopjhifepijiaa
open Go.RowKit
open Go.Maps (Keyed int_keyed)
set_option linter.unusedVariables false

theorem laid17 : laidOutB Try.prog = true := by kernel_rfl
theorem Try.keyInt : Keyed Try.prog 3 := int_keyed Try.underlying3
theorem Try.keyHalf : Keyed Try.prog 45 := Keyed.of_law (deep_law_laid laid17 (m := 2) (by omega) (of_decide_eq_true (by kernel_rfl)) (by kernel_rfl) (by kernel_rfl))
theorem Try.keyPoint : Keyed Try.prog 51 := Keyed.of_law (deep_law_laid laid17 (m := 2) (by omega) (of_decide_eq_true (by kernel_rfl)) (by kernel_rfl) (by kernel_rfl))
theorem Try.keyPair : Keyed Try.prog 79 := Keyed.of_law (deep_law_laid laid17 (m := 2) (by omega) (of_decide_eq_true (by kernel_rfl)) (by kernel_rfl) (by kernel_rfl))

theorem types_pos : ∃ m, Try.prog.types.size = m + 1 := ⟨Try.prog.types.size - 1, by have : 0 < Try.prog.types.size := of_decide_eq_true (by kernel_rfl); omega⟩
theorem cells_half : Try.prog.cellsOf 45 = 2 := by kernel_rfl
theorem cells_int : Try.prog.cellsOf 3 = 1 := by kernel_rfl
theorem cells_bool : Try.prog.cellsOf 4 = 1 := by kernel_rfl
theorem cells_pt : Try.prog.cellsOf 51 = 2 := by kernel_rfl
theorem cells_pair : Try.prog.cellsOf 79 = 2 := by kernel_rfl
theorem key_half (e : Int) (b : Bool) (he : (Lit.int .i64 e).wf = true) : keyOf Try.prog 45 (.agg #[.int .i64 e, .bool b]) = some (.string (keyBytes [.int .i64 e, .bool b])) := by
  have h1 : Try.prog.keyType 45 = true := by kernel_rfl
  have h2 : (Value.agg #[Value.int .i64 e, .bool b]).formed Try.prog 45 = true := by simp [Value.formed, Try.underlying45, cells_half]
  obtain ⟨m, hm⟩ := types_pos
  unfold keyOf
  rw [Try.underlying45, h1, h2, hm]
  simp [Program.keyLits, Try.underlying45, Try.underlying3, Try.underlying4, Value.cells, cells_half, cells_int, cells_bool, he]
theorem key_point (x y : Int) (hx : (Lit.int .i64 x).wf = true) (hy : (Lit.int .i64 y).wf = true) : keyOf Try.prog 51 (.agg #[.int .i64 x, .int .i64 y]) = some (.string (keyBytes [.int .i64 x, .int .i64 y])) := by
  have h1 : Try.prog.keyType 51 = true := by kernel_rfl
  have h2 : (Value.agg #[Value.int .i64 x, .int .i64 y]).formed Try.prog 51 = true := by simp [Value.formed, Try.underlying51, cells_pt]
  obtain ⟨m, hm⟩ := types_pos
  unfold keyOf
  rw [Try.underlying51, h1, h2, hm]
  simp [Program.keyLits, Try.underlying51, Try.underlying3, Value.cells, cells_pt, cells_int, hx, hy]
theorem key_pair (x y : Int) (hx : (Lit.int .i64 x).wf = true) (hy : (Lit.int .i64 y).wf = true) : keyOf Try.prog 79 (.agg #[.int .i64 x, .int .i64 y]) = some (.string (keyBytes [.int .i64 x, .int .i64 y])) := by
  have h1 : Try.prog.keyType 79 = true := by kernel_rfl
  have h2 : (Value.agg #[Value.int .i64 x, .int .i64 y]).formed Try.prog 79 = true := by simp [Value.formed, Try.underlying79, cells_pair]
  obtain ⟨m, hm⟩ := types_pos
  unfold keyOf
  rw [Try.underlying79, h1, h2, hm]
  simp [Program.keyLits, Try.underlying79, Try.underlying3, Value.cells, cells_pair, cells_int, hx, hy, List.range_succ, List.range_zero]
theorem key_int (x : Int) (hx : (Lit.int .i64 x).wf = true) : keyOf Try.prog 3 (.int .i64 x) = some (.int .i64 x) := Go.Maps.keyOf_int_mk Try.underlying3 hx
end Go.Proofs.Ythopjhifepijiaa
