/-
  DERIVED. GIVEN WITH THE SEED: THE CARDS: each row of YthmfgbjimdondaaDoorRows.lean that lists a variable, with what it lists TIED to the program's text (the seventh form; the later family's looks); each row that meets fmt, with fmt's text TOLD by the authors' own Lean function (tested against real Go, not proved from fmt's source: count such statements apart). THE CARD IS WHAT COUNTS. Prove the row's statement (the work); the ties are given (YthmfgbjimdondaaDoorTie.lean); close each card by the builder's one call (the guide's Derived/Test/ToyasCard.lean, 'card_holds'). Laid BY PROGRAM, IN A SANDBOX (cutbox-door.mjs). By AI agents, Wed Nov 11 2026. No macro, syntax, notation, axiom, sorry.
-/
import Derived.Test.YthmfgbjimdondaaDoorRows
import GoSem.ClaimSeven
namespace Go.Proofs.YthmfgbjimdondaaDoor
namespace Rows

/-- THE TIED CARD OF 'lightsievelaw07.BitTexts'. -/
def bitTextsCard : Claim7 := { stood := { row := bitTextsRow, standIns := [], harness := (true, "6f6485f82934a668b59fdc628c71f39db0e258f6ca2f7a3c287307422ad8bf09"), looks := true }, kinds := [], alts := [], laidByText := true, laidKinds := [.data, .data, .data, .data, .sentinel, .sentinel, .pinned], laidTests := true, laidLooks := .later }
def BitTextsCardSaid : Prop := Claim7.holds Tryd.pinned (.plain (OpenSpec.ofChange bitTextsSpec)) bitTextsCard

/-- THE SECOND FORM's CARD OF 'lightsievelaw07.BitTexts'. -/
def bitTextsUptoCard : Claim7 := { stood := { row := bitTextsUptoRow, standIns := [], harness := (true, "6f6485f82934a668b59fdc628c71f39db0e258f6ca2f7a3c287307422ad8bf09"), looks := true }, kinds := [], alts := [], laidByText := true, laidKinds := [.data, .data, .data, .data, .sentinel, .sentinel, .pinned], laidTests := true, laidLooks := .later }
def BitTextsUptoCardSaid : Prop := Claim7.holds Tryd.pinned (.plain (OpenSpec.upto bitTextsSpec)) bitTextsUptoCard
end Rows
end Go.Proofs.YthmfgbjimdondaaDoor
