/- The contract of strings.Repeat at one nought. -/
import Derived.Test.YtfnfapgmicmegaaWord
import Derived.Test.YtfnfapgmicmegaaShelf
import Derived.Lib.Hide
import Derived.Deep.QuietTactic
import Derived.BigQuiet
namespace Go.Proofs.Ytfnfapgmicmegaa
open Go.RowKit
set_option linter.unusedVariables false

theorem repeat_nul_list (c : Nat) : Lib.repeatL [0] c = List.replicate c (0 : UInt8) := by
  induction c with
  | zero => rfl
  | succ c ih => rw [Lib.repeatL, ih]; rfl
/-- strings.Repeat of one nought. -/
theorem repeat_nul (c : Int) (w : World) (h0 : 0 ≤ c) (h1 : c ≤ 1000000) :
    Calls Try.prog 26 #[.string ⟨#[0]⟩, .int .i64 c] w fun e w' => e = .returned (.string (S (nul c.toNat))) ∧ Below w.heap.size w w' := by
  obtain ⟨c, rfl⟩ := Int.eq_ofNat_of_zero_le h0
  refine (Try.strings_Repeat ⟨#[0]⟩ c w (by omega) (by show 1 * c ≤ _; omega)).mono ?_
  rintro e w' ⟨rfl, hb⟩
  refine ⟨?_, hb⟩
  have : (ByteArray.mk #[0]).data.toList = [0] := rfl
  rw [this, repeat_nul_list]; rfl

end Go.Proofs.Ytfnfapgmicmegaa
