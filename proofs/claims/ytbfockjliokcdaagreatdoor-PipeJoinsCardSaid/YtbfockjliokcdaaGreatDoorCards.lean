/-
  DERIVED. GIVEN WITH THE SEED: THE CARDS: each row of YtbfockjliokcdaaGreatDoorRows.lean that lists a variable, with what it lists TIED to the program's text (the seventh form; the later family's looks); each row that meets fmt, with fmt's text TOLD by the authors' own Lean function (tested against real Go, not proved from fmt's source: count such statements apart). THE CARD IS WHAT COUNTS. Prove the row's statement (the work); the ties are given (YtbfockjliokcdaaGreatDoorTie.lean); close each card by the builder's one call (the guide's Derived/Test/ToyasCard.lean, 'card_holds'). Laid BY PROGRAM, IN A SANDBOX (cutbox-door.mjs). By AI agents, Wed Nov 11 2026. No macro, syntax, notation, axiom, sorry.
-/
import Derived.Test.YtbfockjliokcdaaGreatDoorRows
import GoSem.ClaimSeven
namespace Go.Proofs.YtbfockjliokcdaaGreatDoor
namespace Rows

/-- THE TIED CARD OF 'refinerylaw24.PipePlans'. -/
def pipePlansCard : Claim7 := { stood := { row := pipePlansRow, standIns := [], harness := (true, "09b25ac05f3a90f66f8c97c335bf460cf7ca67c1f772e25ee023f428972d14c3"), looks := true }, kinds := [], alts := [], laidByText := true, laidKinds := [.data, .data, .pinned], laidTests := true, laidLooks := .later }
def PipePlansCardSaid : Prop := Claim7.holds Tryz.pinned (.plain (OpenSpec.ofChange pipePlansSpec)) pipePlansCard

/-- THE TIED CARD OF 'refinerylaw24.PipeJoins'. -/
def pipeJoinsCard : Claim7 := { stood := { row := pipeJoinsRow, standIns := [], harness := (true, "09b25ac05f3a90f66f8c97c335bf460cf7ca67c1f772e25ee023f428972d14c3"), looks := true }, kinds := [], alts := [], laidByText := true, laidKinds := [.data, .data, .pinned], laidTests := true, laidLooks := .later }
def PipeJoinsCardSaid : Prop := Claim7.holds Tryz.pinned (.plain (OpenSpec.ofChange pipeJoinsSpec)) pipeJoinsCard

/-- THE TIED CARD OF 'refinerylaw24.PipeErrors'. -/
def pipeErrorsCard : Claim7 := { stood := { row := pipeErrorsRow, standIns := [], harness := (true, "09b25ac05f3a90f66f8c97c335bf460cf7ca67c1f772e25ee023f428972d14c3"), looks := true }, kinds := [], alts := [], laidByText := true, laidKinds := [.data, .data, .data, .data, .data, .sentinel, .sentinel, .pinned], laidTests := true, laidLooks := .later }
def PipeErrorsCardSaid : Prop := Claim7.holds Tryz.pinned (.plain (OpenSpec.ofChange pipeErrorsSpec)) pipeErrorsCard

/-- THE TIED CARD OF 'refinerytop.TopTexts'. -/
def topTextsCard : Claim7 := { stood := { row := topTextsRow, standIns := [], harness := (true, "09b25ac05f3a90f66f8c97c335bf460cf7ca67c1f772e25ee023f428972d14c3"), looks := true }, kinds := [], alts := [], laidByText := true, laidKinds := [.data, .data, .data, .data, .data, .sentinel, .sentinel, .pinned], laidTests := true, laidLooks := .later }
def TopTextsCardSaid : Prop := Claim7.holds Tryz.pinned (.plain (OpenSpec.ofChange topTextsSpec)) topTextsCard

/-- THE TIED CARD OF 'refinerytop.TopEmpty'. -/
def topEmptyCard : Claim7 := { stood := { row := topEmptyRow, standIns := [], harness := (true, "09b25ac05f3a90f66f8c97c335bf460cf7ca67c1f772e25ee023f428972d14c3"), looks := true }, kinds := [], alts := [], laidByText := true, laidKinds := [.data, .data, .data, .data, .data, .sentinel, .sentinel, .pinned], laidTests := true, laidLooks := .later }
def TopEmptyCardSaid : Prop := Claim7.holds Tryz.pinned (.plain (OpenSpec.ofChange topEmptySpec)) topEmptyCard

/-- THE SECOND FORM's CARD OF 'refinerylaw24.PipePlans'. -/
def pipePlansUptoCard : Claim7 := { stood := { row := pipePlansUptoRow, standIns := [], harness := (true, "09b25ac05f3a90f66f8c97c335bf460cf7ca67c1f772e25ee023f428972d14c3"), looks := true }, kinds := [], alts := [], laidByText := true, laidKinds := [.data, .data, .pinned], laidTests := true, laidLooks := .later }
def PipePlansUptoCardSaid : Prop := Claim7.holds Tryz.pinned (.plain (OpenSpec.upto pipePlansSpec)) pipePlansUptoCard

/-- THE SECOND FORM's CARD OF 'refinerylaw24.PipeJoins'. -/
def pipeJoinsUptoCard : Claim7 := { stood := { row := pipeJoinsUptoRow, standIns := [], harness := (true, "09b25ac05f3a90f66f8c97c335bf460cf7ca67c1f772e25ee023f428972d14c3"), looks := true }, kinds := [], alts := [], laidByText := true, laidKinds := [.data, .data, .pinned], laidTests := true, laidLooks := .later }
def PipeJoinsUptoCardSaid : Prop := Claim7.holds Tryz.pinned (.plain (OpenSpec.upto pipeJoinsSpec)) pipeJoinsUptoCard

/-- THE SECOND FORM's CARD OF 'refinerylaw24.PipeErrors'. -/
def pipeErrorsUptoCard : Claim7 := { stood := { row := pipeErrorsUptoRow, standIns := [], harness := (true, "09b25ac05f3a90f66f8c97c335bf460cf7ca67c1f772e25ee023f428972d14c3"), looks := true }, kinds := [], alts := [], laidByText := true, laidKinds := [.data, .data, .data, .data, .data, .sentinel, .sentinel, .pinned], laidTests := true, laidLooks := .later }
def PipeErrorsUptoCardSaid : Prop := Claim7.holds Tryz.pinned (.plain (OpenSpec.upto pipeErrorsSpec)) pipeErrorsUptoCard

/-- THE SECOND FORM's CARD OF 'refinerytop.TopTexts'. -/
def topTextsUptoCard : Claim7 := { stood := { row := topTextsUptoRow, standIns := [], harness := (true, "09b25ac05f3a90f66f8c97c335bf460cf7ca67c1f772e25ee023f428972d14c3"), looks := true }, kinds := [], alts := [], laidByText := true, laidKinds := [.data, .data, .data, .data, .data, .sentinel, .sentinel, .pinned], laidTests := true, laidLooks := .later }
def TopTextsUptoCardSaid : Prop := Claim7.holds Tryz.pinned (.plain (OpenSpec.upto topTextsSpec)) topTextsUptoCard

/-- THE SECOND FORM's CARD OF 'refinerytop.TopEmpty'. -/
def topEmptyUptoCard : Claim7 := { stood := { row := topEmptyUptoRow, standIns := [], harness := (true, "09b25ac05f3a90f66f8c97c335bf460cf7ca67c1f772e25ee023f428972d14c3"), looks := true }, kinds := [], alts := [], laidByText := true, laidKinds := [.data, .data, .data, .data, .data, .sentinel, .sentinel, .pinned], laidTests := true, laidLooks := .later }
def TopEmptyUptoCardSaid : Prop := Claim7.holds Tryz.pinned (.plain (OpenSpec.upto topEmptySpec)) topEmptyUptoCard
end Rows
end Go.Proofs.YtbfockjliokcdaaGreatDoor
