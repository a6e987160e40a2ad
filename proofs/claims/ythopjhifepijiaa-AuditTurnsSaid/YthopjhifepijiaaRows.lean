/-
  No cell of these rows narrows 'for every input' (looked for: loops, veiled, ifaces, maps, wideKeys, modest, calm, conditions, laid).
  DERIVED. THE GIVEN ROWS OF THIS SEAT. 5 by the template 'for every input the law returns true; each argument reads behind the call as it read before'; 0 by the template 'total and deterministic' (their statements: YthopjhifepijiaaTotals.lean).
  GIVEN WITH THE SEED: the statements are not yours to turn. If you find one false, say at which input.
  Laid BY PROGRAM, IN A SANDBOX (cutbox-rows.mjs): the forced cells as the released guide's own fill.sh prints them over the translation 2ea6186c2cb62774… (all of the seat's roots in one cut). By AI agents, Wed Nov 11 2026. No macro, syntax, notation, axiom, sorry.
-/
import Derived.Test.YthopjhifepijiaaChecked
import GoSem.Claim
import GoSem.ClaimJoined
import GoSem.ClaimMapViews
import Derived.JoinedTies
import Derived.KernelRfl
namespace Go.Proofs.Ythopjhifepijiaa
/- THE CELL 'sum', in the pinned program and in every row, IS THE sha256 OF THE DUMP (.gsa) THAT YthopjhifepijiaaProg.lean LOADS. Nothing in Lean hashes anything: it is a label: what it is worth is what the hold of that sum in a sandbox is worth. -/
noncomputable def Try.pinned : Pinned := { name := "ythopjhifepijiaa", sum := "2ea6186c2cb627748301580a245c6f1bdebd6f45ed676f0ea9a511e332b069c3", checked := Try.checked }
namespace Rows
def none {H : Type} : Left H := { results := [], args := [] }

/-- 'croftlaw17.RealmOnce': WHATEVER THE INPUT: true; the input reads as it did. -/
def realmOnceSpec : ChangeSpec := { name := "realmOnce", fn := fun _ => fun
  | [d] => { results := [.lit (.bool true)], args := [d] }
  | _ => none }
def realmOnceRow : OpenClaim := { program := "ythopjhifepijiaa", sum := "2ea6186c2cb627748301580a245c6f1bdebd6f45ed676f0ea9a511e332b069c3", func := "croft/croftlaw17.RealmOnce", spec := "realmOnce", inPlace := ["math/bits.Add64"], unfollowed := true, recurses := true, plainKeys := false, apart := false }
def RealmOnceSaid : Prop := realmOnceRow.holds Try.pinned (OpenSpec.ofChange realmOnceSpec)

/-- ITS FALSE NEIGHBOUR: 'it returns false'. Refute it at one input. -/
def realmOnceWrong : ChangeSpec := { name := "realmOnce", fn := fun _ => fun
  | [d] => { results := [.lit (.bool false)], args := [d] }
  | _ => none }
def RealmOnceWrongFalsely : Prop := realmOnceRow.holds Try.pinned (OpenSpec.ofChange realmOnceWrong)

/-- 'croftlaw17.RealmWithin': WHATEVER THE INPUT: true; the input reads as it did. -/
def realmWithinSpec : ChangeSpec := { name := "realmWithin", fn := fun _ => fun
  | [d1, d2, d3] => { results := [.lit (.bool true)], args := [d1, d2, d3] }
  | _ => none }
def realmWithinRow : OpenClaim := { program := "ythopjhifepijiaa", sum := "2ea6186c2cb627748301580a245c6f1bdebd6f45ed676f0ea9a511e332b069c3", func := "croft/croftlaw17.RealmWithin", spec := "realmWithin", inPlace := ["math/bits.Add64"], unfollowed := true, recurses := true, plainKeys := false, apart := false }
def RealmWithinSaid : Prop := realmWithinRow.holds Try.pinned (OpenSpec.ofChange realmWithinSpec)

/-- ITS FALSE NEIGHBOUR: 'it returns false'. Refute it at one input. -/
def realmWithinWrong : ChangeSpec := { name := "realmWithin", fn := fun _ => fun
  | [d1, d2, d3] => { results := [.lit (.bool false)], args := [d1, d2, d3] }
  | _ => none }
def RealmWithinWrongFalsely : Prop := realmWithinRow.holds Try.pinned (OpenSpec.ofChange realmWithinWrong)

/-- 'croftlaw17.RealmWalks': WHATEVER THE INPUT: true; the input reads as it did. -/
def realmWalksSpec : ChangeSpec := { name := "realmWalks", fn := fun _ => fun
  | [d1, d2, d3] => { results := [.lit (.bool true)], args := [d1, d2, d3] }
  | _ => none }
def realmWalksRow : OpenClaim := { program := "ythopjhifepijiaa", sum := "2ea6186c2cb627748301580a245c6f1bdebd6f45ed676f0ea9a511e332b069c3", func := "croft/croftlaw17.RealmWalks", spec := "realmWalks", inPlace := ["math/bits.Add64"], unfollowed := true, recurses := true, plainKeys := false, apart := false }
def RealmWalksSaid : Prop := realmWalksRow.holds Try.pinned (OpenSpec.ofChange realmWalksSpec)

/-- ITS FALSE NEIGHBOUR: 'it returns false'. Refute it at one input. -/
def realmWalksWrong : ChangeSpec := { name := "realmWalks", fn := fun _ => fun
  | [d1, d2, d3] => { results := [.lit (.bool false)], args := [d1, d2, d3] }
  | _ => none }
def RealmWalksWrongFalsely : Prop := realmWalksRow.holds Try.pinned (OpenSpec.ofChange realmWalksWrong)

/-- 'croftlaw18.AuditTurns': WHATEVER THE INPUT: true; the input reads as it did. -/
def auditTurnsSpec : ChangeSpec := { name := "auditTurns", fn := fun _ => fun
  | [d1, d2, d3, d4] => { results := [.lit (.bool true)], args := [d1, d2, d3, d4] }
  | _ => none }
def auditTurnsRow : OpenClaim := { program := "ythopjhifepijiaa", sum := "2ea6186c2cb627748301580a245c6f1bdebd6f45ed676f0ea9a511e332b069c3", func := "croft/croftlaw18.AuditTurns", spec := "auditTurns", inPlace := ["math/bits.Add64"], unfollowed := true, recurses := true, plainKeys := false, apart := false }
def AuditTurnsSaid : Prop := auditTurnsRow.holds Try.pinned (OpenSpec.ofChange auditTurnsSpec)

/-- ITS FALSE NEIGHBOUR: 'it returns false'. Refute it at one input. -/
def auditTurnsWrong : ChangeSpec := { name := "auditTurns", fn := fun _ => fun
  | [d1, d2, d3, d4] => { results := [.lit (.bool false)], args := [d1, d2, d3, d4] }
  | _ => none }
def AuditTurnsWrongFalsely : Prop := auditTurnsRow.holds Try.pinned (OpenSpec.ofChange auditTurnsWrong)

/-- 'croftlaw18.AuditPlans': WHATEVER THE INPUT: true; the input reads as it did. -/
def auditPlansSpec : ChangeSpec := { name := "auditPlans", fn := fun _ => fun
  | [d1, d2] => { results := [.lit (.bool true)], args := [d1, d2] }
  | _ => none }
def auditPlansRow : OpenClaim := { program := "ythopjhifepijiaa", sum := "2ea6186c2cb627748301580a245c6f1bdebd6f45ed676f0ea9a511e332b069c3", func := "croft/croftlaw18.AuditPlans", spec := "auditPlans", inPlace := ["math/bits.Add64"], unfollowed := true, recurses := true, plainKeys := false, apart := false }
def AuditPlansSaid : Prop := auditPlansRow.holds Try.pinned (OpenSpec.ofChange auditPlansSpec)

/-- ITS FALSE NEIGHBOUR: 'it returns false'. Refute it at one input. -/
def auditPlansWrong : ChangeSpec := { name := "auditPlans", fn := fun _ => fun
  | [d1, d2] => { results := [.lit (.bool false)], args := [d1, d2] }
  | _ => none }
def AuditPlansWrongFalsely : Prop := auditPlansRow.holds Try.pinned (OpenSpec.ofChange auditPlansWrong)

/- THE SECOND FORM. 'bulk': how many values and letters a reading holds, each counted each time it is reached (what is shared counts as often as it is met; a slice's spare places count too). A statement '..UptoSaid' is the law's where the arguments, and the package variables that the reading takes, are together of bulk at most 1048576: NARROWER than '..Said'. Prove '..Said' where nothing that the law and all that it calls make is longer than what came in: it says more and counts as full. Else prove '..UptoSaid'. A law counts once. -/
mutual
def uptoBulk {H : Type} : DataW H → Nat
  | .lit (.string bytes) => bytes.length + 1
  | .lit _ => 1
  | .nil => 1
  | .ptr d => uptoBulk d + 1
  | .slice elems spare => uptoBulkAll elems + uptoBulkAll spare + 1
  | .agg parts => uptoBulkAll parts + 1
  | .iface _ d => uptoBulk d + 1
  | .map entries => uptoBulkEntries entries + 1
  | .held _ => 1
def uptoBulkAll {H : Type} : List (DataW H) → Nat
  | [] => 0
  | d :: r => uptoBulk d + uptoBulkAll r
def uptoBulkEntries {H : Type} : List (Lit × DataW H) → Nat
  | [] => 0
  | x :: r => uptoBulkEntry x + uptoBulkEntries r
def uptoBulkEntry {H : Type} : Lit × DataW H → Nat
  | (.string bytes, d) => bytes.length + uptoBulk d + 1
  | (_, d) => uptoBulk d + 1
 end
def uptoSmall : (H : Type) → List (DataW H) → Bool := fun _ ds => decide (uptoBulkAll ds ≤ 1048576)
def OpenSpec.upto (s : _root_.Go.ChangeSpec) : _root_.Go.OpenSpec := { _root_.Go.OpenSpec.ofChange s with cond := some uptoSmall }

/-- 'croftlaw17.RealmOnce', WHERE WHAT IT READS IS OF BULK AT MOST 1048576: true; the input reads as it did. -/
def realmOnceUptoRow : OpenClaim := { program := "ythopjhifepijiaa", sum := "2ea6186c2cb627748301580a245c6f1bdebd6f45ed676f0ea9a511e332b069c3", func := "croft/croftlaw17.RealmOnce", spec := "realmOnce", inPlace := ["math/bits.Add64"], unfollowed := true, recurses := true, plainKeys := false, apart := false, narrowed := true }
def RealmOnceUptoSaid : Prop := realmOnceUptoRow.holds Try.pinned (OpenSpec.upto realmOnceSpec)

/-- 'croftlaw17.RealmWithin', WHERE WHAT IT READS IS OF BULK AT MOST 1048576: true; the input reads as it did. -/
def realmWithinUptoRow : OpenClaim := { program := "ythopjhifepijiaa", sum := "2ea6186c2cb627748301580a245c6f1bdebd6f45ed676f0ea9a511e332b069c3", func := "croft/croftlaw17.RealmWithin", spec := "realmWithin", inPlace := ["math/bits.Add64"], unfollowed := true, recurses := true, plainKeys := false, apart := false, narrowed := true }
def RealmWithinUptoSaid : Prop := realmWithinUptoRow.holds Try.pinned (OpenSpec.upto realmWithinSpec)

/-- 'croftlaw17.RealmWalks', WHERE WHAT IT READS IS OF BULK AT MOST 1048576: true; the input reads as it did. -/
def realmWalksUptoRow : OpenClaim := { program := "ythopjhifepijiaa", sum := "2ea6186c2cb627748301580a245c6f1bdebd6f45ed676f0ea9a511e332b069c3", func := "croft/croftlaw17.RealmWalks", spec := "realmWalks", inPlace := ["math/bits.Add64"], unfollowed := true, recurses := true, plainKeys := false, apart := false, narrowed := true }
def RealmWalksUptoSaid : Prop := realmWalksUptoRow.holds Try.pinned (OpenSpec.upto realmWalksSpec)

/-- 'croftlaw18.AuditTurns', WHERE WHAT IT READS IS OF BULK AT MOST 1048576: true; the input reads as it did. -/
def auditTurnsUptoRow : OpenClaim := { program := "ythopjhifepijiaa", sum := "2ea6186c2cb627748301580a245c6f1bdebd6f45ed676f0ea9a511e332b069c3", func := "croft/croftlaw18.AuditTurns", spec := "auditTurns", inPlace := ["math/bits.Add64"], unfollowed := true, recurses := true, plainKeys := false, apart := false, narrowed := true }
def AuditTurnsUptoSaid : Prop := auditTurnsUptoRow.holds Try.pinned (OpenSpec.upto auditTurnsSpec)

/-- 'croftlaw18.AuditPlans', WHERE WHAT IT READS IS OF BULK AT MOST 1048576: true; the input reads as it did. -/
def auditPlansUptoRow : OpenClaim := { program := "ythopjhifepijiaa", sum := "2ea6186c2cb627748301580a245c6f1bdebd6f45ed676f0ea9a511e332b069c3", func := "croft/croftlaw18.AuditPlans", spec := "auditPlans", inPlace := ["math/bits.Add64"], unfollowed := true, recurses := true, plainKeys := false, apart := false, narrowed := true }
def AuditPlansUptoSaid : Prop := auditPlansUptoRow.holds Try.pinned (OpenSpec.upto auditPlansSpec)

end Rows
end Go.Proofs.Ythopjhifepijiaa
