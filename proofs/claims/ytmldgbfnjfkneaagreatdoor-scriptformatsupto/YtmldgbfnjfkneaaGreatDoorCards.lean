/-
  DERIVED. GIVEN WITH THE SEED: THE CARDS: each row of YtmldgbfnjfkneaaGreatDoorRows.lean that lists a variable, with what it lists TIED to the program's text (the seventh form; the later family's looks); each row that meets fmt, with fmt's text TOLD by the authors' own Lean function (tested against real Go, not proved from fmt's source: count such statements apart). THE CARD IS WHAT COUNTS. Prove the row's statement (the work); the ties are given (YtmldgbfnjfkneaaGreatDoorTie.lean); close each card by the builder's one call (the guide's Derived/Test/ToyasCard.lean, 'card_holds'). Laid BY PROGRAM, IN A SANDBOX (cutbox-door.mjs). By AI agents, Wed Nov 11 2026. No macro, syntax, notation, axiom, sorry.
-/
import Derived.Test.YtmldgbfnjfkneaaGreatDoorRows
import GoSem.ClaimSeven
namespace Go.Proofs.YtmldgbfnjfkneaaGreatDoor
namespace Rows

/-- THE TIED CARD OF 'backsteplaw51.ScriptFormats'. -/
def scriptFormatsCard : Claim7 := { stood := { row := scriptFormatsRow, standIns := [], harness := (true, "47b62af5fab26f786abbb84e6e93bfb7f48e8bcfc23cbae1d62a09d52e9edf23"), looks := true }, kinds := [], alts := [], laidByText := true, laidKinds := [.data, .data, .data, .data, .sentinel, .sentinel, .listed, .data, .pinned], laidTests := true, laidLooks := .later }
def ScriptFormatsCardSaid : Prop := Claim7.holds Tryz.pinned (.plain (OpenSpec.ofChange scriptFormatsSpec)) scriptFormatsCard

/-- THE TIED CARD OF 'backsteplaw51.ScriptParses'. -/
def scriptParsesCard : Claim7 := { stood := { row := scriptParsesRow, standIns := [], harness := (true, "47b62af5fab26f786abbb84e6e93bfb7f48e8bcfc23cbae1d62a09d52e9edf23"), looks := true }, kinds := [], alts := [], laidByText := true, laidKinds := [.data, .data, .data, .data, .sentinel, .sentinel, .listed, .data, .pinned], laidTests := true, laidLooks := .later }
def ScriptParsesCardSaid : Prop := Claim7.holds Tryz.pinned (.plain (OpenSpec.ofChange scriptParsesSpec)) scriptParsesCard

/-- THE SECOND FORM's CARD OF 'backsteplaw51.ScriptFormats'. -/
def scriptFormatsUptoCard : Claim7 := { stood := { row := scriptFormatsUptoRow, standIns := [], harness := (true, "47b62af5fab26f786abbb84e6e93bfb7f48e8bcfc23cbae1d62a09d52e9edf23"), looks := true }, kinds := [], alts := [], laidByText := true, laidKinds := [.data, .data, .data, .data, .sentinel, .sentinel, .listed, .data, .pinned], laidTests := true, laidLooks := .later }
def ScriptFormatsUptoCardSaid : Prop := Claim7.holds Tryz.pinned (.plain (OpenSpec.upto scriptFormatsSpec)) scriptFormatsUptoCard

/-- THE SECOND FORM's CARD OF 'backsteplaw51.ScriptParses'. -/
def scriptParsesUptoCard : Claim7 := { stood := { row := scriptParsesUptoRow, standIns := [], harness := (true, "47b62af5fab26f786abbb84e6e93bfb7f48e8bcfc23cbae1d62a09d52e9edf23"), looks := true }, kinds := [], alts := [], laidByText := true, laidKinds := [.data, .data, .data, .data, .sentinel, .sentinel, .listed, .data, .pinned], laidTests := true, laidLooks := .later }
def ScriptParsesUptoCardSaid : Prop := Claim7.holds Tryz.pinned (.plain (OpenSpec.upto scriptParsesSpec)) scriptParsesUptoCard
end Rows
end Go.Proofs.YtmldgbfnjfkneaaGreatDoor
