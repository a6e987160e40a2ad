/-
  DERIVED. GIVEN WITH THE SEED: THE CARDS: each row of YteiomhojflianaaDoorRows.lean that lists a variable, with what it lists TIED to the program's text (the seventh form; the later family's looks); each row that meets fmt, with fmt's text TOLD by the authors' own Lean function (tested against real Go, not proved from fmt's source: count such statements apart). THE CARD IS WHAT COUNTS. Prove the row's statement (the work); the ties are given (YteiomhojflianaaDoorTie.lean); close each card by the builder's one call (the guide's Derived/Test/ToyasCard.lean, 'card_holds'). Laid BY PROGRAM, IN A SANDBOX (cutbox-door.mjs). By AI agents, Wed Nov 11 2026. No macro, syntax, notation, axiom, sorry.
-/
import Derived.Test.YteiomhojflianaaDoorRows
import GoSem.ClaimSeven
namespace Go.Proofs.YteiomhojflianaaDoor
namespace Rows

/-- THE TIED CARD OF 'croftlaw08.PageNumbers'. -/
def pageNumbersCard : Claim7 := { stood := { row := pageNumbersRow, standIns := [], harness := (true, "fd6644d4f94612d0945f2b9c4c32e45686cbc8f37970de0167d1df08ce6259e8"), looks := false }, kinds := [], alts := [], laidByText := true, laidKinds := [.data, .pinned], laidTests := true, laidLooks := .later }
def PageNumbersCardSaid : Prop := Claim7.holds Tryd.pinned (.plain (OpenSpec.ofChange pageNumbersSpec)) pageNumbersCard

/-- THE TIED CARD OF 'croftlaw08.PageBursts'. -/
def pageBurstsCard : Claim7 := { stood := { row := pageBurstsRow, standIns := [], harness := (true, "fd6644d4f94612d0945f2b9c4c32e45686cbc8f37970de0167d1df08ce6259e8"), looks := false }, kinds := [], alts := [], laidByText := true, laidKinds := [.data, .pinned], laidTests := true, laidLooks := .later }
def PageBurstsCardSaid : Prop := Claim7.holds Tryd.pinned (.plain (OpenSpec.ofChange pageBurstsSpec)) pageBurstsCard

/-- THE TIED CARD OF 'croftlaw08.PageBack'. -/
def pageBackCard : Claim7 := { stood := { row := pageBackRow, standIns := [], harness := (true, "fd6644d4f94612d0945f2b9c4c32e45686cbc8f37970de0167d1df08ce6259e8"), looks := false }, kinds := [], alts := [], laidByText := true, laidKinds := [.data, .pinned], laidTests := true, laidLooks := .later }
def PageBackCardSaid : Prop := Claim7.holds Tryd.pinned (.plain (OpenSpec.ofChange pageBackSpec)) pageBackCard

/-- THE TIED CARD OF 'croftlaw08.PageReads'. -/
def pageReadsCard : Claim7 := { stood := { row := pageReadsRow, standIns := [], harness := (true, "fd6644d4f94612d0945f2b9c4c32e45686cbc8f37970de0167d1df08ce6259e8"), looks := false }, kinds := [], alts := [], laidByText := true, laidKinds := [.data, .pinned], laidTests := true, laidLooks := .later }
def PageReadsCardSaid : Prop := Claim7.holds Tryd.pinned (.plain (OpenSpec.ofChange pageReadsSpec)) pageReadsCard

/-- THE SECOND FORM's CARD OF 'croftlaw08.PageNumbers'. -/
def pageNumbersUptoCard : Claim7 := { stood := { row := pageNumbersUptoRow, standIns := [], harness := (true, "fd6644d4f94612d0945f2b9c4c32e45686cbc8f37970de0167d1df08ce6259e8"), looks := false }, kinds := [], alts := [], laidByText := true, laidKinds := [.data, .pinned], laidTests := true, laidLooks := .later }
def PageNumbersUptoCardSaid : Prop := Claim7.holds Tryd.pinned (.plain (OpenSpec.upto pageNumbersSpec)) pageNumbersUptoCard

/-- THE SECOND FORM's CARD OF 'croftlaw08.PageBursts'. -/
def pageBurstsUptoCard : Claim7 := { stood := { row := pageBurstsUptoRow, standIns := [], harness := (true, "fd6644d4f94612d0945f2b9c4c32e45686cbc8f37970de0167d1df08ce6259e8"), looks := false }, kinds := [], alts := [], laidByText := true, laidKinds := [.data, .pinned], laidTests := true, laidLooks := .later }
def PageBurstsUptoCardSaid : Prop := Claim7.holds Tryd.pinned (.plain (OpenSpec.upto pageBurstsSpec)) pageBurstsUptoCard

/-- THE SECOND FORM's CARD OF 'croftlaw08.PageBack'. -/
def pageBackUptoCard : Claim7 := { stood := { row := pageBackUptoRow, standIns := [], harness := (true, "fd6644d4f94612d0945f2b9c4c32e45686cbc8f37970de0167d1df08ce6259e8"), looks := false }, kinds := [], alts := [], laidByText := true, laidKinds := [.data, .pinned], laidTests := true, laidLooks := .later }
def PageBackUptoCardSaid : Prop := Claim7.holds Tryd.pinned (.plain (OpenSpec.upto pageBackSpec)) pageBackUptoCard

/-- THE SECOND FORM's CARD OF 'croftlaw08.PageReads'. -/
def pageReadsUptoCard : Claim7 := { stood := { row := pageReadsUptoRow, standIns := [], harness := (true, "fd6644d4f94612d0945f2b9c4c32e45686cbc8f37970de0167d1df08ce6259e8"), looks := false }, kinds := [], alts := [], laidByText := true, laidKinds := [.data, .pinned], laidTests := true, laidLooks := .later }
def PageReadsUptoCardSaid : Prop := Claim7.holds Tryd.pinned (.plain (OpenSpec.upto pageReadsSpec)) pageReadsUptoCard
end Rows
end Go.Proofs.YteiomhojflianaaDoor
