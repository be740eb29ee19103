/-
  DERIVED. GIVEN WITH THE SEED: THE CARDS: each row of YtehmkckpbknodaaDoorRows.lean that lists a variable, with what it lists TIED to the program's text (the seventh form; the later family's looks); each row that meets fmt, with fmt's text TOLD by the authors' own Lean function (tested against real Go, not proved from fmt's source: count such statements apart). THE CARD IS WHAT COUNTS. Prove the row's statement (the work); the ties are given (YtehmkckpbknodaaDoorTie.lean); close each card by the builder's one call (the guide's Derived/Test/ToyasCard.lean, 'card_holds'). Laid BY PROGRAM, IN A SANDBOX (cutbox-door.mjs). By AI agents, Wed Nov 11 2026. No macro, syntax, notation, axiom, sorry.
-/
import Derived.Test.YtehmkckpbknodaaDoorRows
import GoSem.ClaimSeven
namespace Go.Proofs.YtehmkckpbknodaaDoor
namespace Rows

/-- THE TIED CARD OF 'turnkeylaw15.AsmNames'. -/
def asmNamesCard : Claim7 := { stood := { row := asmNamesRow, standIns := [], harness := (true, "aad375ca251f11094040cd58309be66e916734d34aa90c70b1f55b6e28f48b50"), looks := true }, kinds := [], alts := [], laidByText := true, laidKinds := [.data, .data, .data, .data, .sentinel, .sentinel, .sentinel, .sentinel, .sentinel, .sentinel, .sentinel, .sentinel, .sentinel, .sentinel, .sentinel, .sentinel, .sentinel, .sentinel, .pinned], laidTests := true, laidLooks := .later }
def AsmNamesCardSaid : Prop := Claim7.holds Tryd.pinned (.plain (OpenSpec.ofChange asmNamesSpec)) asmNamesCard

/-- THE TIED CARD OF 'turnkeylaw15.AsmWrong'. -/
def asmWrongCard : Claim7 := { stood := { row := asmWrongRow, standIns := [], harness := (true, "aad375ca251f11094040cd58309be66e916734d34aa90c70b1f55b6e28f48b50"), looks := true }, kinds := [], alts := [], laidByText := true, laidKinds := [.data, .data, .data, .data, .sentinel, .sentinel, .sentinel, .sentinel, .sentinel, .sentinel, .sentinel, .sentinel, .sentinel, .sentinel, .sentinel, .sentinel, .sentinel, .sentinel, .pinned], laidTests := true, laidLooks := .later }
def AsmWrongCardSaid : Prop := Claim7.holds Tryd.pinned (.plain (OpenSpec.ofChange asmWrongSpec)) asmWrongCard

/-- THE SECOND FORM's CARD OF 'turnkeylaw15.AsmNames'. -/
def asmNamesUptoCard : Claim7 := { stood := { row := asmNamesUptoRow, standIns := [], harness := (true, "aad375ca251f11094040cd58309be66e916734d34aa90c70b1f55b6e28f48b50"), looks := true }, kinds := [], alts := [], laidByText := true, laidKinds := [.data, .data, .data, .data, .sentinel, .sentinel, .sentinel, .sentinel, .sentinel, .sentinel, .sentinel, .sentinel, .sentinel, .sentinel, .sentinel, .sentinel, .sentinel, .sentinel, .pinned], laidTests := true, laidLooks := .later }
def AsmNamesUptoCardSaid : Prop := Claim7.holds Tryd.pinned (.plain (OpenSpec.upto asmNamesSpec)) asmNamesUptoCard

/-- THE SECOND FORM's CARD OF 'turnkeylaw15.AsmWrong'. -/
def asmWrongUptoCard : Claim7 := { stood := { row := asmWrongUptoRow, standIns := [], harness := (true, "aad375ca251f11094040cd58309be66e916734d34aa90c70b1f55b6e28f48b50"), looks := true }, kinds := [], alts := [], laidByText := true, laidKinds := [.data, .data, .data, .data, .sentinel, .sentinel, .sentinel, .sentinel, .sentinel, .sentinel, .sentinel, .sentinel, .sentinel, .sentinel, .sentinel, .sentinel, .sentinel, .sentinel, .pinned], laidTests := true, laidLooks := .later }
def AsmWrongUptoCardSaid : Prop := Claim7.holds Tryd.pinned (.plain (OpenSpec.upto asmWrongSpec)) asmWrongUptoCard
end Rows
end Go.Proofs.YtehmkckpbknodaaDoor
