/-
  DERIVED. GIVEN WITH THE SEED: THE CARDS: each row of YtpaholkmlfaflaaGreatDoorRows.lean that lists a variable, with what it lists TIED to the program's text (the seventh form; the later family's looks); each row that meets fmt, with fmt's text TOLD by the authors' own Lean function (tested against real Go, not proved from fmt's source: count such statements apart). THE CARD IS WHAT COUNTS. Prove the row's statement (the work); the ties are given (YtpaholkmlfaflaaGreatDoorTie.lean); close each card by the builder's one call (the guide's Derived/Test/ToyasCard.lean, 'card_holds'). Laid BY PROGRAM, IN A SANDBOX (cutbox-door.mjs). By AI agents, Wed Nov 11 2026. No macro, syntax, notation, axiom, sorry.
-/
import Derived.Test.YtpaholkmlfaflaaGreatDoorRows
import GoSem.ClaimSeven
namespace Go.Proofs.YtpaholkmlfaflaaGreatDoor
namespace Rows

/-- THE TIED CARD OF 'croftlaw11.PagerFormats'. -/
def pagerFormatsCard : Claim7 := { stood := { row := pagerFormatsRow, standIns := [], harness := (true, "ebda757f07796d69d31133db25c691d1168be5403ede497b4ec74d365c90b8be"), looks := false }, kinds := [], alts := [], laidByText := true, laidKinds := [.data, .pinned], laidTests := true, laidLooks := .later }
def PagerFormatsCardSaid : Prop := Claim7.holds Tryz.pinned (.plain (OpenSpec.ofChange pagerFormatsSpec)) pagerFormatsCard

/-- THE TIED CARD OF 'croftlaw11.PagerOpens'. -/
def pagerOpensCard : Claim7 := { stood := { row := pagerOpensRow, standIns := [], harness := (true, "ebda757f07796d69d31133db25c691d1168be5403ede497b4ec74d365c90b8be"), looks := false }, kinds := [], alts := [], laidByText := true, laidKinds := [.data, .pinned], laidTests := true, laidLooks := .later }
def PagerOpensCardSaid : Prop := Claim7.holds Tryz.pinned (.plain (OpenSpec.ofChange pagerOpensSpec)) pagerOpensCard

/-- THE TIED CARD OF 'croftlaw11.PagerPlays'. -/
def pagerPlaysCard : Claim7 := { stood := { row := pagerPlaysRow, standIns := [], harness := (true, "ebda757f07796d69d31133db25c691d1168be5403ede497b4ec74d365c90b8be"), looks := false }, kinds := [], alts := [], laidByText := true, laidKinds := [.data, .pinned], laidTests := true, laidLooks := .later }
def PagerPlaysCardSaid : Prop := Claim7.holds Tryz.pinned (.plain (OpenSpec.ofChange pagerPlaysSpec)) pagerPlaysCard

/-- THE TIED CARD OF 'croftlaw11.PagerNil'. -/
def pagerNilCard : Claim7 := { stood := { row := pagerNilRow, standIns := [], harness := (true, "ebda757f07796d69d31133db25c691d1168be5403ede497b4ec74d365c90b8be"), looks := false }, kinds := [], alts := [], laidByText := true, laidKinds := [.data, .pinned], laidTests := true, laidLooks := .later }
def PagerNilCardSaid : Prop := Claim7.holds Tryz.pinned (.plain (OpenSpec.ofChange pagerNilSpec)) pagerNilCard

/-- THE SECOND FORM's CARD OF 'croftlaw11.PagerFormats'. -/
def pagerFormatsUptoCard : Claim7 := { stood := { row := pagerFormatsUptoRow, standIns := [], harness := (true, "ebda757f07796d69d31133db25c691d1168be5403ede497b4ec74d365c90b8be"), looks := false }, kinds := [], alts := [], laidByText := true, laidKinds := [.data, .pinned], laidTests := true, laidLooks := .later }
def PagerFormatsUptoCardSaid : Prop := Claim7.holds Tryz.pinned (.plain (OpenSpec.upto pagerFormatsSpec)) pagerFormatsUptoCard

/-- THE SECOND FORM's CARD OF 'croftlaw11.PagerOpens'. -/
def pagerOpensUptoCard : Claim7 := { stood := { row := pagerOpensUptoRow, standIns := [], harness := (true, "ebda757f07796d69d31133db25c691d1168be5403ede497b4ec74d365c90b8be"), looks := false }, kinds := [], alts := [], laidByText := true, laidKinds := [.data, .pinned], laidTests := true, laidLooks := .later }
def PagerOpensUptoCardSaid : Prop := Claim7.holds Tryz.pinned (.plain (OpenSpec.upto pagerOpensSpec)) pagerOpensUptoCard

/-- THE SECOND FORM's CARD OF 'croftlaw11.PagerPlays'. -/
def pagerPlaysUptoCard : Claim7 := { stood := { row := pagerPlaysUptoRow, standIns := [], harness := (true, "ebda757f07796d69d31133db25c691d1168be5403ede497b4ec74d365c90b8be"), looks := false }, kinds := [], alts := [], laidByText := true, laidKinds := [.data, .pinned], laidTests := true, laidLooks := .later }
def PagerPlaysUptoCardSaid : Prop := Claim7.holds Tryz.pinned (.plain (OpenSpec.upto pagerPlaysSpec)) pagerPlaysUptoCard

/-- THE SECOND FORM's CARD OF 'croftlaw11.PagerNil'. -/
def pagerNilUptoCard : Claim7 := { stood := { row := pagerNilUptoRow, standIns := [], harness := (true, "ebda757f07796d69d31133db25c691d1168be5403ede497b4ec74d365c90b8be"), looks := false }, kinds := [], alts := [], laidByText := true, laidKinds := [.data, .pinned], laidTests := true, laidLooks := .later }
def PagerNilUptoCardSaid : Prop := Claim7.holds Tryz.pinned (.plain (OpenSpec.upto pagerNilSpec)) pagerNilUptoCard
end Rows
end Go.Proofs.YtpaholkmlfaflaaGreatDoor
