/-
  DERIVED. GIVEN WITH THE SEED: THE CARDS: each row of YtmjdmhelmgcanaaDoorRows.lean that lists a variable, with what it lists TIED to the program's text (the seventh form; the later family's looks); each row that meets fmt, with fmt's text TOLD by the authors' own Lean function (tested against real Go, not proved from fmt's source: count such statements apart). THE CARD IS WHAT COUNTS. Prove the row's statement (the work); the ties are given (YtmjdmhelmgcanaaDoorTie.lean); close each card by the builder's one call (the guide's Derived/Test/ToyasCard.lean, 'card_holds'). Laid BY PROGRAM, IN A SANDBOX (cutbox-door.mjs). By AI agents, Wed Nov 11 2026. No macro, syntax, notation, axiom, sorry.
-/
import Derived.Test.YtmjdmhelmgcanaaDoorRows
import GoSem.ClaimSeven
namespace Go.Proofs.YtmjdmhelmgcanaaDoor
namespace Rows

/-- THE TIED CARD OF 'jointurelaw01.NumTexts'. -/
def numTextsCard : Claim7 := { stood := { row := numTextsRow, standIns := [], harness := (true, "cc97022ed46a512eba0a2ba63dbf167d15d2cfc33f243d5e85951330320d9860"), looks := false }, kinds := [], alts := [], laidByText := true, laidKinds := [.data, .data, .data], laidTests := true, laidLooks := .later }
def NumTextsCardSaid : Prop := Claim7.holds Tryd.pinned (.plain (OpenSpec.ofChange numTextsSpec)) numTextsCard

/-- THE TIED CARD OF 'jointurelaw01.NumParses'. -/
def numParsesCard : Claim7 := { stood := { row := numParsesRow, standIns := [], harness := (true, "cc97022ed46a512eba0a2ba63dbf167d15d2cfc33f243d5e85951330320d9860"), looks := false }, kinds := [], alts := [], laidByText := true, laidKinds := [.data, .data, .data], laidTests := true, laidLooks := .later }
def NumParsesCardSaid : Prop := Claim7.holds Tryd.pinned (.plain (OpenSpec.ofChange numParsesSpec)) numParsesCard

/-- THE SECOND FORM's CARD OF 'jointurelaw01.NumTexts'. -/
def numTextsUptoCard : Claim7 := { stood := { row := numTextsUptoRow, standIns := [], harness := (true, "cc97022ed46a512eba0a2ba63dbf167d15d2cfc33f243d5e85951330320d9860"), looks := false }, kinds := [], alts := [], laidByText := true, laidKinds := [.data, .data, .data], laidTests := true, laidLooks := .later }
def NumTextsUptoCardSaid : Prop := Claim7.holds Tryd.pinned (.plain (OpenSpec.upto numTextsSpec)) numTextsUptoCard

/-- THE SECOND FORM's CARD OF 'jointurelaw01.NumParses'. -/
def numParsesUptoCard : Claim7 := { stood := { row := numParsesUptoRow, standIns := [], harness := (true, "cc97022ed46a512eba0a2ba63dbf167d15d2cfc33f243d5e85951330320d9860"), looks := false }, kinds := [], alts := [], laidByText := true, laidKinds := [.data, .data, .data], laidTests := true, laidLooks := .later }
def NumParsesUptoCardSaid : Prop := Claim7.holds Tryd.pinned (.plain (OpenSpec.upto numParsesSpec)) numParsesUptoCard
end Rows
end Go.Proofs.YtmjdmhelmgcanaaDoor
