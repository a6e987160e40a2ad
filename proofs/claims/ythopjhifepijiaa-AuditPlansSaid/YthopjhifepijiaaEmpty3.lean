/- The table of an empty plan is checked. -/
import Derived.Test.YthopjhifepijiaaEmpty2
import Derived.Test.YthopjhifepijiaaMapN
namespace Go.Proofs.Ythopjhifepijiaa
open Go.RowKit
open Go.Maps (Keyed)
set_option linter.unusedVariables false

set_option maxRecDepth 100000 in
set_option maxHeartbeats 1000000 in
theorem tplanE (a b c : Int) (f : Value) (hf : ∃ x n c, f = .slice x n c) (w : World) : Calls Try.prog 32 #[.agg #[.int .i64 a, .int .i64 b, .int .i64 c, .slice none 0 0, .slice none 0 0, f]] w fun e w' => e = .returned (.agg #[.slice none 0 0, .slice none 0 0]) ∧ Below w.heap.size w w' := by
  obtain ⟨x, n, k, rfl⟩ := hf
  go_enter Try.func32, Try.ntmps32
  go_wp2_with fail
  refine wp_loop_rounds 1 ?_
  rw [rounds_succ]
  go_wp2_with fail
  refine wp_loop_rounds 1 ?_
  rw [rounds_succ]
  go_wp2_with fail
  refine bodyPost_ret (v := .agg #[.slice none 0 0, .slice none 0 0]) (by simp [results, Try.results32, go_sem]) rfl ⟨rfl, ?_⟩
  repeat (first | exact Below.refl _ _ | refine below_alloc ?_ | refine Below.setCell ?_ (by simp) _)
set_option maxRecDepth 100000 in
theorem lastN (n : Int) (w : World) (h : n < 0) (f : Value) (hf : ∃ x n c, f = .slice x n c) : Calls Try.prog 91 #[.int .i64 n, f] w fun e w' => e = .returned (.bool false) ∧ Below w.heap.size w w' := by
  obtain ⟨x, k, c, rfl⟩ := hf
  go_enter Try.func91, Try.ntmps91
  go_wp2_with fail
  go_ret
  exact ⟨rfl, Below.refl _ _⟩
set_option maxRecDepth 100000 in
theorem last0 (w : World) : Calls Try.prog 91 #[.int .i64 0, .slice none 0 0] w fun e w' => e = .returned (.bool true) ∧ Below w.heap.size w w' := by
  go_enter Try.func91, Try.ntmps91
  go_wp2_with fail
  go_ret
  exact ⟨rfl, Below.refl _ _⟩
set_option maxRecDepth 100000 in
theorem last1 (w : World) (g c : Nat) (h : w.cell? ⟨g, 0, none⟩ = some (.int .i64 0)) : Calls Try.prog 91 #[.int .i64 0, .slice (some ⟨g, 0, none⟩) 1 c] w fun e w' => e = .returned (.bool true) ∧ Below w.heap.size w w' := by
  go_enter Try.func91, Try.ntmps91
  go_wp2_with fail
  go_ret
  exact ⟨rfl, Below.refl _ _⟩
end Go.Proofs.Ythopjhifepijiaa
