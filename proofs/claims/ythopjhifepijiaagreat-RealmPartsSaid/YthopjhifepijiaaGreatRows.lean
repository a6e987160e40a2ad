/-
  No cell of these rows narrows 'for every input' (looked for: loops, veiled, ifaces, maps, wideKeys, modest, calm, conditions, laid).
  DERIVED. THE GIVEN ROWS OF THIS SEAT. 3 by the template 'for every input the law returns true; each argument reads behind the call as it read before'; 0 by the template 'total and deterministic' (their statements: YthopjhifepijiaaGreatTotals.lean).
  GIVEN WITH THE SEED: the statements are not yours to turn. If you find one false, say at which input.
  Laid BY PROGRAM, IN A SANDBOX (cutbox-rows.mjs): the forced cells as the released guide's own fill.sh prints them over the translation 542ce2707aaea829… (all of the seat's roots in one cut). By AI agents, Wed Nov 11 2026. No macro, syntax, notation, axiom, sorry.
-/
import Derived.Test.YthopjhifepijiaaGreatChecked
import GoSem.Claim
import GoSem.ClaimJoined
import GoSem.ClaimMapViews
import Derived.JoinedTies
import Derived.KernelRfl
namespace Go.Proofs.YthopjhifepijiaaGreat
/- THE CELL 'sum', in the pinned program and in every row, IS THE sha256 OF THE DUMP (.gsa) THAT YthopjhifepijiaaGreatProg.lean LOADS. Nothing in Lean hashes anything: it is a label: what it is worth is what the hold of that sum in a sandbox is worth. -/
noncomputable def Tryz.pinned : Pinned := { name := "ythopjhifepijiaagreat", sum := "542ce2707aaea8296943ec83b1f7448ca116bf527659c30aee6b38828e6e60bf", checked := Tryz.checked }
namespace Rows
def none {H : Type} : Left H := { results := [], args := [] }

/-- 'croftlaw17.RealmParts': WHATEVER THE INPUT: true; the input reads as it did. -/
def realmPartsSpec : ChangeSpec := { name := "realmParts", fn := fun _ => fun
  | [d] => { results := [.lit (.bool true)], args := [d] }
  | _ => none }
def realmPartsRow : OpenClaim := { program := "ythopjhifepijiaagreat", sum := "542ce2707aaea8296943ec83b1f7448ca116bf527659c30aee6b38828e6e60bf", func := "croft/croftlaw17.RealmParts", spec := "realmParts", inPlace := ["math/bits.Add64"], unfollowed := true, recurses := true, plainKeys := false, apart := false }
def RealmPartsSaid : Prop := realmPartsRow.holds Tryz.pinned (OpenSpec.ofChange realmPartsSpec)

/-- ITS FALSE NEIGHBOUR: 'it returns false'. Refute it at one input. -/
def realmPartsWrong : ChangeSpec := { name := "realmParts", fn := fun _ => fun
  | [d] => { results := [.lit (.bool false)], args := [d] }
  | _ => none }
def RealmPartsWrongFalsely : Prop := realmPartsRow.holds Tryz.pinned (OpenSpec.ofChange realmPartsWrong)

/-- 'croftlaw17.RealmFinds': WHATEVER THE INPUT: true; the input reads as it did. -/
def realmFindsSpec : ChangeSpec := { name := "realmFinds", fn := fun _ => fun
  | [d1, d2] => { results := [.lit (.bool true)], args := [d1, d2] }
  | _ => none }
def realmFindsRow : OpenClaim := { program := "ythopjhifepijiaagreat", sum := "542ce2707aaea8296943ec83b1f7448ca116bf527659c30aee6b38828e6e60bf", func := "croft/croftlaw17.RealmFinds", spec := "realmFinds", inPlace := ["math/bits.Add64"], unfollowed := true, recurses := true, plainKeys := false, apart := false }
def RealmFindsSaid : Prop := realmFindsRow.holds Tryz.pinned (OpenSpec.ofChange realmFindsSpec)

/-- ITS FALSE NEIGHBOUR: 'it returns false'. Refute it at one input. -/
def realmFindsWrong : ChangeSpec := { name := "realmFinds", fn := fun _ => fun
  | [d1, d2] => { results := [.lit (.bool false)], args := [d1, d2] }
  | _ => none }
def RealmFindsWrongFalsely : Prop := realmFindsRow.holds Tryz.pinned (OpenSpec.ofChange realmFindsWrong)

/-- 'croftlaw18.AuditNames': WHATEVER THE INPUT: true; the input reads as it did. -/
def auditNamesSpec : ChangeSpec := { name := "auditNames", fn := fun _ => fun
  | [d1, d2] => { results := [.lit (.bool true)], args := [d1, d2] }
  | _ => none }
def auditNamesRow : OpenClaim := { program := "ythopjhifepijiaagreat", sum := "542ce2707aaea8296943ec83b1f7448ca116bf527659c30aee6b38828e6e60bf", func := "croft/croftlaw18.AuditNames", spec := "auditNames", inPlace := ["math/bits.Add64"], unfollowed := true, recurses := true, plainKeys := false, apart := false }
def AuditNamesSaid : Prop := auditNamesRow.holds Tryz.pinned (OpenSpec.ofChange auditNamesSpec)

/-- ITS FALSE NEIGHBOUR: 'it returns false'. Refute it at one input. -/
def auditNamesWrong : ChangeSpec := { name := "auditNames", fn := fun _ => fun
  | [d1, d2] => { results := [.lit (.bool false)], args := [d1, d2] }
  | _ => none }
def AuditNamesWrongFalsely : Prop := auditNamesRow.holds Tryz.pinned (OpenSpec.ofChange auditNamesWrong)

/- THE SECOND FORM. 'bulk': how many values and letters a reading holds, each counted each time it is reached (what is shared counts as often as it is met; a slice's spare places count too). A statement '..UptoSaid' is the law's where the arguments, and the package variables that the reading takes, are together of bulk at most 1048576: NARROWER than '..Said'. Prove '..Said' where nothing that the law and all that it calls make is longer than what came in: it says more and counts as full. Else prove '..UptoSaid'. A law counts once. -/
mutual
def uptoBulk {H : Type} : DataW H → Nat
  | .lit (.string bytes) => bytes.length + 1
  | .lit _ => 1
  | .nil => 1
  | .ptr d => uptoBulk d + 1
  | .slice elems spare => uptoBulkAll elems + uptoBulkAll spare + 1
  | .agg parts => uptoBulkAll parts + 1
  | .iface _ d => uptoBulk d + 1
  | .map entries => uptoBulkEntries entries + 1
  | .held _ => 1
def uptoBulkAll {H : Type} : List (DataW H) → Nat
  | [] => 0
  | d :: r => uptoBulk d + uptoBulkAll r
def uptoBulkEntries {H : Type} : List (Lit × DataW H) → Nat
  | [] => 0
  | x :: r => uptoBulkEntry x + uptoBulkEntries r
def uptoBulkEntry {H : Type} : Lit × DataW H → Nat
  | (.string bytes, d) => bytes.length + uptoBulk d + 1
  | (_, d) => uptoBulk d + 1
 end
def uptoSmall : (H : Type) → List (DataW H) → Bool := fun _ ds => decide (uptoBulkAll ds ≤ 1048576)
def OpenSpec.upto (s : _root_.Go.ChangeSpec) : _root_.Go.OpenSpec := { _root_.Go.OpenSpec.ofChange s with cond := some uptoSmall }

/-- 'croftlaw17.RealmParts', WHERE WHAT IT READS IS OF BULK AT MOST 1048576: true; the input reads as it did. -/
def realmPartsUptoRow : OpenClaim := { program := "ythopjhifepijiaagreat", sum := "542ce2707aaea8296943ec83b1f7448ca116bf527659c30aee6b38828e6e60bf", func := "croft/croftlaw17.RealmParts", spec := "realmParts", inPlace := ["math/bits.Add64"], unfollowed := true, recurses := true, plainKeys := false, apart := false, narrowed := true }
def RealmPartsUptoSaid : Prop := realmPartsUptoRow.holds Tryz.pinned (OpenSpec.upto realmPartsSpec)

/-- 'croftlaw17.RealmFinds', WHERE WHAT IT READS IS OF BULK AT MOST 1048576: true; the input reads as it did. -/
def realmFindsUptoRow : OpenClaim := { program := "ythopjhifepijiaagreat", sum := "542ce2707aaea8296943ec83b1f7448ca116bf527659c30aee6b38828e6e60bf", func := "croft/croftlaw17.RealmFinds", spec := "realmFinds", inPlace := ["math/bits.Add64"], unfollowed := true, recurses := true, plainKeys := false, apart := false, narrowed := true }
def RealmFindsUptoSaid : Prop := realmFindsUptoRow.holds Tryz.pinned (OpenSpec.upto realmFindsSpec)

/-- 'croftlaw18.AuditNames', WHERE WHAT IT READS IS OF BULK AT MOST 1048576: true; the input reads as it did. -/
def auditNamesUptoRow : OpenClaim := { program := "ythopjhifepijiaagreat", sum := "542ce2707aaea8296943ec83b1f7448ca116bf527659c30aee6b38828e6e60bf", func := "croft/croftlaw18.AuditNames", spec := "auditNames", inPlace := ["math/bits.Add64"], unfollowed := true, recurses := true, plainKeys := false, apart := false, narrowed := true }
def AuditNamesUptoSaid : Prop := auditNamesUptoRow.holds Tryz.pinned (OpenSpec.upto auditNamesSpec)

end Rows
end Go.Proofs.YthopjhifepijiaaGreat
