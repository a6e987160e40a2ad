/-
  No cell of these rows narrows 'for every input' (looked for: loops, veiled, ifaces, maps, wideKeys, modest, calm, conditions, laid).
  DERIVED. THE GIVEN ROWS OF THIS SEAT. 10 by the template 'for every input the law returns true; each argument reads behind the call as it read before'; 0 by the template 'total and deterministic' (their statements: YteijagojagfecaaTotals.lean).
  GIVEN WITH THE SEED: the statements are not yours to turn. If you find one false, say at which input.
  Laid BY PROGRAM, IN A SANDBOX (cutbox-rows.mjs): the forced cells as the released guide's own fill.sh prints them over the translation 6da015acf5e187fe… (all of the seat's roots in one cut). By AI agents, Wed Nov 11 2026. No macro, syntax, notation, axiom, sorry.
-/
import Derived.Test.YteijagojagfecaaChecked
import GoSem.Claim
import GoSem.ClaimJoined
import GoSem.ClaimMapViews
import Derived.JoinedTies
import Derived.KernelRfl
namespace Go.Proofs.Yteijagojagfecaa
/- THE CELL 'sum', in the pinned program and in every row, IS THE sha256 OF THE DUMP (.gsa) THAT YteijagojagfecaaProg.lean LOADS. Nothing in Lean hashes anything: it is a label: what it is worth is what the hold of that sum in a sandbox is worth. -/
noncomputable def Try.pinned : Pinned := { name := "yteijagojagfecaa", sum := "6da015acf5e187fe8c968f445b5239c8765f101f41e6cf4c040eb374611eee1b", checked := Try.checked }
namespace Rows
def none {H : Type} : Left H := { results := [], args := [] }

/-- 'croftlaw06.DiskSure': WHATEVER THE INPUT: true; the input reads as it did. -/
def diskSureSpec : ChangeSpec := { name := "diskSure", fn := fun _ => fun
  | [d1, d2, d3] => { results := [.lit (.bool true)], args := [d1, d2, d3] }
  | _ => none }
def diskSureRow : OpenClaim := { program := "yteijagojagfecaa", sum := "6da015acf5e187fe8c968f445b5239c8765f101f41e6cf4c040eb374611eee1b", func := "croft/croftlaw06.DiskSure", spec := "diskSure", inPlace := ["internal/abi.NoEscape", "internal/bytealg.MakeNoZero"], unfollowed := true, recurses := true, apart := false }
def DiskSureSaid : Prop := diskSureRow.holds Try.pinned (OpenSpec.ofChange diskSureSpec)

/-- ITS FALSE NEIGHBOUR: 'it returns false'. Refute it at one input. -/
def diskSureWrong : ChangeSpec := { name := "diskSure", fn := fun _ => fun
  | [d1, d2, d3] => { results := [.lit (.bool false)], args := [d1, d2, d3] }
  | _ => none }
def DiskSureWrongFalsely : Prop := diskSureRow.holds Try.pinned (OpenSpec.ofChange diskSureWrong)

/-- 'croftlaw12.SlotPacks': WHATEVER THE INPUT: true; the input reads as it did. -/
def slotPacksSpec : ChangeSpec := { name := "slotPacks", fn := fun _ => fun
  | [d] => { results := [.lit (.bool true)], args := [d] }
  | _ => none }
def slotPacksRow : OpenClaim := { program := "yteijagojagfecaa", sum := "6da015acf5e187fe8c968f445b5239c8765f101f41e6cf4c040eb374611eee1b", func := "croft/croftlaw12.SlotPacks", spec := "slotPacks", inPlace := ["internal/abi.NoEscape", "internal/bytealg.MakeNoZero"], unfollowed := true, recurses := true, apart := false }
def SlotPacksSaid : Prop := slotPacksRow.holds Try.pinned (OpenSpec.ofChange slotPacksSpec)

/-- ITS FALSE NEIGHBOUR: 'it returns false'. Refute it at one input. -/
def slotPacksWrong : ChangeSpec := { name := "slotPacks", fn := fun _ => fun
  | [d] => { results := [.lit (.bool false)], args := [d] }
  | _ => none }
def SlotPacksWrongFalsely : Prop := slotPacksRow.holds Try.pinned (OpenSpec.ofChange slotPacksWrong)

/-- 'croftlaw12.SlotLefts': WHATEVER THE INPUT: true; the input reads as it did. -/
def slotLeftsSpec : ChangeSpec := { name := "slotLefts", fn := fun _ => fun
  | [d] => { results := [.lit (.bool true)], args := [d] }
  | _ => none }
def slotLeftsRow : OpenClaim := { program := "yteijagojagfecaa", sum := "6da015acf5e187fe8c968f445b5239c8765f101f41e6cf4c040eb374611eee1b", func := "croft/croftlaw12.SlotLefts", spec := "slotLefts", inPlace := ["internal/abi.NoEscape", "internal/bytealg.MakeNoZero"], unfollowed := true, recurses := true, apart := false }
def SlotLeftsSaid : Prop := slotLeftsRow.holds Try.pinned (OpenSpec.ofChange slotLeftsSpec)

/-- ITS FALSE NEIGHBOUR: 'it returns false'. Refute it at one input. -/
def slotLeftsWrong : ChangeSpec := { name := "slotLefts", fn := fun _ => fun
  | [d] => { results := [.lit (.bool false)], args := [d] }
  | _ => none }
def SlotLeftsWrongFalsely : Prop := slotLeftsRow.holds Try.pinned (OpenSpec.ofChange slotLeftsWrong)

/-- 'croftlaw06.DiskPlays': WHATEVER THE INPUT: true; the input reads as it did. -/
def diskPlaysSpec : ChangeSpec := { name := "diskPlays", fn := fun _ => fun
  | [d1, d2] => { results := [.lit (.bool true)], args := [d1, d2] }
  | _ => none }
def diskPlaysRow : OpenClaim := { program := "yteijagojagfecaa", sum := "6da015acf5e187fe8c968f445b5239c8765f101f41e6cf4c040eb374611eee1b", func := "croft/croftlaw06.DiskPlays", spec := "diskPlays", inPlace := ["internal/abi.NoEscape", "internal/bytealg.MakeNoZero"], unfollowed := true, recurses := true, apart := false }
def DiskPlaysSaid : Prop := diskPlaysRow.holds Try.pinned (OpenSpec.ofChange diskPlaysSpec)

/-- ITS FALSE NEIGHBOUR: 'it returns false'. Refute it at one input. -/
def diskPlaysWrong : ChangeSpec := { name := "diskPlays", fn := fun _ => fun
  | [d1, d2] => { results := [.lit (.bool false)], args := [d1, d2] }
  | _ => none }
def DiskPlaysWrongFalsely : Prop := diskPlaysRow.holds Try.pinned (OpenSpec.ofChange diskPlaysWrong)

/-- 'croftlaw06.DiskNil': WHATEVER THE INPUT: true; the input reads as it did. -/
def diskNilSpec : ChangeSpec := { name := "diskNil", fn := fun _ => fun
  | [d] => { results := [.lit (.bool true)], args := [d] }
  | _ => none }
def diskNilRow : OpenClaim := { program := "yteijagojagfecaa", sum := "6da015acf5e187fe8c968f445b5239c8765f101f41e6cf4c040eb374611eee1b", func := "croft/croftlaw06.DiskNil", spec := "diskNil", inPlace := ["internal/abi.NoEscape", "internal/bytealg.MakeNoZero"], unfollowed := true, recurses := true, apart := false }
def DiskNilSaid : Prop := diskNilRow.holds Try.pinned (OpenSpec.ofChange diskNilSpec)

/-- ITS FALSE NEIGHBOUR: 'it returns false'. Refute it at one input. -/
def diskNilWrong : ChangeSpec := { name := "diskNil", fn := fun _ => fun
  | [d] => { results := [.lit (.bool false)], args := [d] }
  | _ => none }
def DiskNilWrongFalsely : Prop := diskNilRow.holds Try.pinned (OpenSpec.ofChange diskNilWrong)

/-- 'croftlaw06.DiskLoads': WHATEVER THE INPUT: true; the input reads as it did. -/
def diskLoadsSpec : ChangeSpec := { name := "diskLoads", fn := fun _ => fun
  | [d] => { results := [.lit (.bool true)], args := [d] }
  | _ => none }
def diskLoadsRow : OpenClaim := { program := "yteijagojagfecaa", sum := "6da015acf5e187fe8c968f445b5239c8765f101f41e6cf4c040eb374611eee1b", func := "croft/croftlaw06.DiskLoads", spec := "diskLoads", inPlace := ["internal/abi.NoEscape", "internal/bytealg.MakeNoZero"], unfollowed := true, recurses := true, apart := false }
def DiskLoadsSaid : Prop := diskLoadsRow.holds Try.pinned (OpenSpec.ofChange diskLoadsSpec)

/-- ITS FALSE NEIGHBOUR: 'it returns false'. Refute it at one input. -/
def diskLoadsWrong : ChangeSpec := { name := "diskLoads", fn := fun _ => fun
  | [d] => { results := [.lit (.bool false)], args := [d] }
  | _ => none }
def DiskLoadsWrongFalsely : Prop := diskLoadsRow.holds Try.pinned (OpenSpec.ofChange diskLoadsWrong)

/-- 'croftlaw12.SlotGets': WHATEVER THE INPUT: true; the input reads as it did. -/
def slotGetsSpec : ChangeSpec := { name := "slotGets", fn := fun _ => fun
  | [d1, d2] => { results := [.lit (.bool true)], args := [d1, d2] }
  | _ => none }
def slotGetsRow : OpenClaim := { program := "yteijagojagfecaa", sum := "6da015acf5e187fe8c968f445b5239c8765f101f41e6cf4c040eb374611eee1b", func := "croft/croftlaw12.SlotGets", spec := "slotGets", inPlace := ["internal/abi.NoEscape", "internal/bytealg.MakeNoZero"], unfollowed := true, recurses := true, apart := false }
def SlotGetsSaid : Prop := slotGetsRow.holds Try.pinned (OpenSpec.ofChange slotGetsSpec)

/-- ITS FALSE NEIGHBOUR: 'it returns false'. Refute it at one input. -/
def slotGetsWrong : ChangeSpec := { name := "slotGets", fn := fun _ => fun
  | [d1, d2] => { results := [.lit (.bool false)], args := [d1, d2] }
  | _ => none }
def SlotGetsWrongFalsely : Prop := slotGetsRow.holds Try.pinned (OpenSpec.ofChange slotGetsWrong)

/-- 'croftlaw12.SlotKeeps': WHATEVER THE INPUT: true; the input reads as it did. -/
def slotKeepsSpec : ChangeSpec := { name := "slotKeeps", fn := fun _ => fun
  | [d1, d2, d3] => { results := [.lit (.bool true)], args := [d1, d2, d3] }
  | _ => none }
def slotKeepsRow : OpenClaim := { program := "yteijagojagfecaa", sum := "6da015acf5e187fe8c968f445b5239c8765f101f41e6cf4c040eb374611eee1b", func := "croft/croftlaw12.SlotKeeps", spec := "slotKeeps", inPlace := ["internal/abi.NoEscape", "internal/bytealg.MakeNoZero"], unfollowed := true, recurses := true, apart := false }
def SlotKeepsSaid : Prop := slotKeepsRow.holds Try.pinned (OpenSpec.ofChange slotKeepsSpec)

/-- ITS FALSE NEIGHBOUR: 'it returns false'. Refute it at one input. -/
def slotKeepsWrong : ChangeSpec := { name := "slotKeeps", fn := fun _ => fun
  | [d1, d2, d3] => { results := [.lit (.bool false)], args := [d1, d2, d3] }
  | _ => none }
def SlotKeepsWrongFalsely : Prop := slotKeepsRow.holds Try.pinned (OpenSpec.ofChange slotKeepsWrong)

/-- 'croftlaw12.SlotPlays': WHATEVER THE INPUT: true; the input reads as it did. -/
def slotPlaysSpec : ChangeSpec := { name := "slotPlays", fn := fun _ => fun
  | [d] => { results := [.lit (.bool true)], args := [d] }
  | _ => none }
def slotPlaysRow : OpenClaim := { program := "yteijagojagfecaa", sum := "6da015acf5e187fe8c968f445b5239c8765f101f41e6cf4c040eb374611eee1b", func := "croft/croftlaw12.SlotPlays", spec := "slotPlays", inPlace := ["internal/abi.NoEscape", "internal/bytealg.MakeNoZero"], unfollowed := true, recurses := true, apart := false }
def SlotPlaysSaid : Prop := slotPlaysRow.holds Try.pinned (OpenSpec.ofChange slotPlaysSpec)

/-- ITS FALSE NEIGHBOUR: 'it returns false'. Refute it at one input. -/
def slotPlaysWrong : ChangeSpec := { name := "slotPlays", fn := fun _ => fun
  | [d] => { results := [.lit (.bool false)], args := [d] }
  | _ => none }
def SlotPlaysWrongFalsely : Prop := slotPlaysRow.holds Try.pinned (OpenSpec.ofChange slotPlaysWrong)

/-- 'croftlaw12.SlotReads': WHATEVER THE INPUT: true; the input reads as it did. -/
def slotReadsSpec : ChangeSpec := { name := "slotReads", fn := fun _ => fun
  | [d1, d2, d3] => { results := [.lit (.bool true)], args := [d1, d2, d3] }
  | _ => none }
def slotReadsRow : OpenClaim := { program := "yteijagojagfecaa", sum := "6da015acf5e187fe8c968f445b5239c8765f101f41e6cf4c040eb374611eee1b", func := "croft/croftlaw12.SlotReads", spec := "slotReads", inPlace := ["internal/abi.NoEscape", "internal/bytealg.MakeNoZero"], unfollowed := true, recurses := true, apart := false }
def SlotReadsSaid : Prop := slotReadsRow.holds Try.pinned (OpenSpec.ofChange slotReadsSpec)

/-- ITS FALSE NEIGHBOUR: 'it returns false'. Refute it at one input. -/
def slotReadsWrong : ChangeSpec := { name := "slotReads", fn := fun _ => fun
  | [d1, d2, d3] => { results := [.lit (.bool false)], args := [d1, d2, d3] }
  | _ => none }
def SlotReadsWrongFalsely : Prop := slotReadsRow.holds Try.pinned (OpenSpec.ofChange slotReadsWrong)

/- THE SECOND FORM. 'bulk': how many values and letters a reading holds, each counted each time it is reached (what is shared counts as often as it is met; a slice's spare places count too). A statement '..UptoSaid' is the law's where the arguments, and the package variables that the reading takes, are together of bulk at most 1048576: NARROWER than '..Said'. Prove '..Said' where nothing that the law and all that it calls make is longer than what came in: it says more and counts as full. Else prove '..UptoSaid'. A law counts once. -/
mutual
def uptoBulk {H : Type} : DataW H → Nat
  | .lit (.string bytes) => bytes.length + 1
  | .lit _ => 1
  | .nil => 1
  | .ptr d => uptoBulk d + 1
  | .slice elems spare => uptoBulkAll elems + uptoBulkAll spare + 1
  | .agg parts => uptoBulkAll parts + 1
  | .iface _ d => uptoBulk d + 1
  | .map entries => uptoBulkEntries entries + 1
  | .held _ => 1
def uptoBulkAll {H : Type} : List (DataW H) → Nat
  | [] => 0
  | d :: r => uptoBulk d + uptoBulkAll r
def uptoBulkEntries {H : Type} : List (Lit × DataW H) → Nat
  | [] => 0
  | x :: r => uptoBulkEntry x + uptoBulkEntries r
def uptoBulkEntry {H : Type} : Lit × DataW H → Nat
  | (.string bytes, d) => bytes.length + uptoBulk d + 1
  | (_, d) => uptoBulk d + 1
 end
def uptoSmall : (H : Type) → List (DataW H) → Bool := fun _ ds => decide (uptoBulkAll ds ≤ 1048576)
def OpenSpec.upto (s : _root_.Go.ChangeSpec) : _root_.Go.OpenSpec := { _root_.Go.OpenSpec.ofChange s with cond := some uptoSmall }

/-- 'croftlaw06.DiskSure', WHERE WHAT IT READS IS OF BULK AT MOST 1048576: true; the input reads as it did. -/
def diskSureUptoRow : OpenClaim := { program := "yteijagojagfecaa", sum := "6da015acf5e187fe8c968f445b5239c8765f101f41e6cf4c040eb374611eee1b", func := "croft/croftlaw06.DiskSure", spec := "diskSure", inPlace := ["internal/abi.NoEscape", "internal/bytealg.MakeNoZero"], unfollowed := true, recurses := true, apart := false, narrowed := true }
def DiskSureUptoSaid : Prop := diskSureUptoRow.holds Try.pinned (OpenSpec.upto diskSureSpec)

/-- 'croftlaw12.SlotPacks', WHERE WHAT IT READS IS OF BULK AT MOST 1048576: true; the input reads as it did. -/
def slotPacksUptoRow : OpenClaim := { program := "yteijagojagfecaa", sum := "6da015acf5e187fe8c968f445b5239c8765f101f41e6cf4c040eb374611eee1b", func := "croft/croftlaw12.SlotPacks", spec := "slotPacks", inPlace := ["internal/abi.NoEscape", "internal/bytealg.MakeNoZero"], unfollowed := true, recurses := true, apart := false, narrowed := true }
def SlotPacksUptoSaid : Prop := slotPacksUptoRow.holds Try.pinned (OpenSpec.upto slotPacksSpec)

/-- 'croftlaw12.SlotLefts', WHERE WHAT IT READS IS OF BULK AT MOST 1048576: true; the input reads as it did. -/
def slotLeftsUptoRow : OpenClaim := { program := "yteijagojagfecaa", sum := "6da015acf5e187fe8c968f445b5239c8765f101f41e6cf4c040eb374611eee1b", func := "croft/croftlaw12.SlotLefts", spec := "slotLefts", inPlace := ["internal/abi.NoEscape", "internal/bytealg.MakeNoZero"], unfollowed := true, recurses := true, apart := false, narrowed := true }
def SlotLeftsUptoSaid : Prop := slotLeftsUptoRow.holds Try.pinned (OpenSpec.upto slotLeftsSpec)

/-- 'croftlaw06.DiskPlays', WHERE WHAT IT READS IS OF BULK AT MOST 1048576: true; the input reads as it did. -/
def diskPlaysUptoRow : OpenClaim := { program := "yteijagojagfecaa", sum := "6da015acf5e187fe8c968f445b5239c8765f101f41e6cf4c040eb374611eee1b", func := "croft/croftlaw06.DiskPlays", spec := "diskPlays", inPlace := ["internal/abi.NoEscape", "internal/bytealg.MakeNoZero"], unfollowed := true, recurses := true, apart := false, narrowed := true }
def DiskPlaysUptoSaid : Prop := diskPlaysUptoRow.holds Try.pinned (OpenSpec.upto diskPlaysSpec)

/-- 'croftlaw06.DiskNil', WHERE WHAT IT READS IS OF BULK AT MOST 1048576: true; the input reads as it did. -/
def diskNilUptoRow : OpenClaim := { program := "yteijagojagfecaa", sum := "6da015acf5e187fe8c968f445b5239c8765f101f41e6cf4c040eb374611eee1b", func := "croft/croftlaw06.DiskNil", spec := "diskNil", inPlace := ["internal/abi.NoEscape", "internal/bytealg.MakeNoZero"], unfollowed := true, recurses := true, apart := false, narrowed := true }
def DiskNilUptoSaid : Prop := diskNilUptoRow.holds Try.pinned (OpenSpec.upto diskNilSpec)

/-- 'croftlaw06.DiskLoads', WHERE WHAT IT READS IS OF BULK AT MOST 1048576: true; the input reads as it did. -/
def diskLoadsUptoRow : OpenClaim := { program := "yteijagojagfecaa", sum := "6da015acf5e187fe8c968f445b5239c8765f101f41e6cf4c040eb374611eee1b", func := "croft/croftlaw06.DiskLoads", spec := "diskLoads", inPlace := ["internal/abi.NoEscape", "internal/bytealg.MakeNoZero"], unfollowed := true, recurses := true, apart := false, narrowed := true }
def DiskLoadsUptoSaid : Prop := diskLoadsUptoRow.holds Try.pinned (OpenSpec.upto diskLoadsSpec)

/-- 'croftlaw12.SlotGets', WHERE WHAT IT READS IS OF BULK AT MOST 1048576: true; the input reads as it did. -/
def slotGetsUptoRow : OpenClaim := { program := "yteijagojagfecaa", sum := "6da015acf5e187fe8c968f445b5239c8765f101f41e6cf4c040eb374611eee1b", func := "croft/croftlaw12.SlotGets", spec := "slotGets", inPlace := ["internal/abi.NoEscape", "internal/bytealg.MakeNoZero"], unfollowed := true, recurses := true, apart := false, narrowed := true }
def SlotGetsUptoSaid : Prop := slotGetsUptoRow.holds Try.pinned (OpenSpec.upto slotGetsSpec)

/-- 'croftlaw12.SlotKeeps', WHERE WHAT IT READS IS OF BULK AT MOST 1048576: true; the input reads as it did. -/
def slotKeepsUptoRow : OpenClaim := { program := "yteijagojagfecaa", sum := "6da015acf5e187fe8c968f445b5239c8765f101f41e6cf4c040eb374611eee1b", func := "croft/croftlaw12.SlotKeeps", spec := "slotKeeps", inPlace := ["internal/abi.NoEscape", "internal/bytealg.MakeNoZero"], unfollowed := true, recurses := true, apart := false, narrowed := true }
def SlotKeepsUptoSaid : Prop := slotKeepsUptoRow.holds Try.pinned (OpenSpec.upto slotKeepsSpec)

/-- 'croftlaw12.SlotPlays', WHERE WHAT IT READS IS OF BULK AT MOST 1048576: true; the input reads as it did. -/
def slotPlaysUptoRow : OpenClaim := { program := "yteijagojagfecaa", sum := "6da015acf5e187fe8c968f445b5239c8765f101f41e6cf4c040eb374611eee1b", func := "croft/croftlaw12.SlotPlays", spec := "slotPlays", inPlace := ["internal/abi.NoEscape", "internal/bytealg.MakeNoZero"], unfollowed := true, recurses := true, apart := false, narrowed := true }
def SlotPlaysUptoSaid : Prop := slotPlaysUptoRow.holds Try.pinned (OpenSpec.upto slotPlaysSpec)

/-- 'croftlaw12.SlotReads', WHERE WHAT IT READS IS OF BULK AT MOST 1048576: true; the input reads as it did. -/
def slotReadsUptoRow : OpenClaim := { program := "yteijagojagfecaa", sum := "6da015acf5e187fe8c968f445b5239c8765f101f41e6cf4c040eb374611eee1b", func := "croft/croftlaw12.SlotReads", spec := "slotReads", inPlace := ["internal/abi.NoEscape", "internal/bytealg.MakeNoZero"], unfollowed := true, recurses := true, apart := false, narrowed := true }
def SlotReadsUptoSaid : Prop := slotReadsUptoRow.holds Try.pinned (OpenSpec.upto slotReadsSpec)

end Rows
end Go.Proofs.Yteijagojagfecaa
