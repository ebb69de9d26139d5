/-
  DERIVED. GIVEN WITH THE SEED: THE CARDS: each row of YtmldgbfnjfkneaaDoorRows.lean that lists a variable, with what it lists TIED to the program's text (the seventh form; the later family's looks); each row that meets fmt, with fmt's text TOLD by the authors' own Lean function (tested against real Go, not proved from fmt's source: count such statements apart). THE CARD IS WHAT COUNTS. Prove the row's statement (the work); the ties are given (YtmldgbfnjfkneaaDoorTie.lean); close each card by the builder's one call (the guide's Derived/Test/ToyasCard.lean, 'card_holds'). Laid BY PROGRAM, IN A SANDBOX (cutbox-door.mjs). By AI agents, Wed Nov 11 2026. No macro, syntax, notation, axiom, sorry.
-/
import Derived.Test.YtmldgbfnjfkneaaDoorRows
import GoSem.ClaimSeven
namespace Go.Proofs.YtmldgbfnjfkneaaDoor
namespace Rows

/-- THE TIED CARD OF 'backsteplaw51.ScriptBack'. -/
def scriptBackCard : Claim7 := { stood := { row := scriptBackRow, standIns := [], harness := (true, "6659cf3c700f6305fdaa6c1a52458cf11e87721e4e59c04b6699a7ca03347fc7"), looks := true }, kinds := [], alts := [], laidByText := true, laidKinds := [.data, .data, .data, .data, .sentinel, .sentinel, .listed, .data, .pinned], laidTests := true, laidLooks := .later }
def ScriptBackCardSaid : Prop := Claim7.holds Tryd.pinned (.plain (OpenSpec.ofChange scriptBackSpec)) scriptBackCard

/-- THE TIED CARD OF 'backsteplaw51.ScriptOne'. -/
def scriptOneCard : Claim7 := { stood := { row := scriptOneRow, standIns := [], harness := (true, "6659cf3c700f6305fdaa6c1a52458cf11e87721e4e59c04b6699a7ca03347fc7"), looks := true }, kinds := [], alts := [], laidByText := true, laidKinds := [.data, .data, .data, .data, .sentinel, .sentinel, .listed, .data, .pinned], laidTests := true, laidLooks := .later }
def ScriptOneCardSaid : Prop := Claim7.holds Tryd.pinned (.plain (OpenSpec.ofChange scriptOneSpec)) scriptOneCard

/-- THE TIED CARD OF 'backsteplaw51.ScriptJoins'. -/
def scriptJoinsCard : Claim7 := { stood := { row := scriptJoinsRow, standIns := [], harness := (true, "6659cf3c700f6305fdaa6c1a52458cf11e87721e4e59c04b6699a7ca03347fc7"), looks := true }, kinds := [], alts := [], laidByText := true, laidKinds := [.data, .data, .data, .data, .sentinel, .sentinel, .listed, .data, .pinned], laidTests := true, laidLooks := .later }
def ScriptJoinsCardSaid : Prop := Claim7.holds Tryd.pinned (.plain (OpenSpec.ofChange scriptJoinsSpec)) scriptJoinsCard

/-- THE TIED CARD OF 'backsteplaw51.ScriptLines'. -/
def scriptLinesCard : Claim7 := { stood := { row := scriptLinesRow, standIns := [], harness := (true, "6659cf3c700f6305fdaa6c1a52458cf11e87721e4e59c04b6699a7ca03347fc7"), looks := true }, kinds := [], alts := [], laidByText := true, laidKinds := [.data, .data, .data, .data, .sentinel, .sentinel, .listed, .data, .pinned], laidTests := true, laidLooks := .later }
def ScriptLinesCardSaid : Prop := Claim7.holds Tryd.pinned (.plain (OpenSpec.ofChange scriptLinesSpec)) scriptLinesCard

/-- THE TIED CARD OF 'backsteplaw51.ScriptTexts'. -/
def scriptTextsCard : Claim7 := { stood := { row := scriptTextsRow, standIns := [], harness := (true, "6659cf3c700f6305fdaa6c1a52458cf11e87721e4e59c04b6699a7ca03347fc7"), looks := true }, kinds := [], alts := [], laidByText := true, laidKinds := [.data, .data, .data, .data, .sentinel, .sentinel, .listed, .data, .pinned], laidTests := true, laidLooks := .later }
def ScriptTextsCardSaid : Prop := Claim7.holds Tryd.pinned (.plain (OpenSpec.ofChange scriptTextsSpec)) scriptTextsCard

/-- THE TIED CARD OF 'backsteplaw51.ScriptLimit'. -/
def scriptLimitCard : Claim7 := { stood := { row := scriptLimitRow, standIns := [], harness := (true, "6659cf3c700f6305fdaa6c1a52458cf11e87721e4e59c04b6699a7ca03347fc7"), looks := true }, kinds := [], alts := [], laidByText := true, laidKinds := [.data, .data, .data, .data, .sentinel, .sentinel, .listed, .data, .pinned], laidTests := true, laidLooks := .later }
def ScriptLimitCardSaid : Prop := Claim7.holds Tryd.pinned (.plain (OpenSpec.ofChange scriptLimitSpec)) scriptLimitCard

/-- THE SECOND FORM's CARD OF 'backsteplaw51.ScriptBack'. -/
def scriptBackUptoCard : Claim7 := { stood := { row := scriptBackUptoRow, standIns := [], harness := (true, "6659cf3c700f6305fdaa6c1a52458cf11e87721e4e59c04b6699a7ca03347fc7"), looks := true }, kinds := [], alts := [], laidByText := true, laidKinds := [.data, .data, .data, .data, .sentinel, .sentinel, .listed, .data, .pinned], laidTests := true, laidLooks := .later }
def ScriptBackUptoCardSaid : Prop := Claim7.holds Tryd.pinned (.plain (OpenSpec.upto scriptBackSpec)) scriptBackUptoCard

/-- THE SECOND FORM's CARD OF 'backsteplaw51.ScriptOne'. -/
def scriptOneUptoCard : Claim7 := { stood := { row := scriptOneUptoRow, standIns := [], harness := (true, "6659cf3c700f6305fdaa6c1a52458cf11e87721e4e59c04b6699a7ca03347fc7"), looks := true }, kinds := [], alts := [], laidByText := true, laidKinds := [.data, .data, .data, .data, .sentinel, .sentinel, .listed, .data, .pinned], laidTests := true, laidLooks := .later }
def ScriptOneUptoCardSaid : Prop := Claim7.holds Tryd.pinned (.plain (OpenSpec.upto scriptOneSpec)) scriptOneUptoCard

/-- THE SECOND FORM's CARD OF 'backsteplaw51.ScriptJoins'. -/
def scriptJoinsUptoCard : Claim7 := { stood := { row := scriptJoinsUptoRow, standIns := [], harness := (true, "6659cf3c700f6305fdaa6c1a52458cf11e87721e4e59c04b6699a7ca03347fc7"), looks := true }, kinds := [], alts := [], laidByText := true, laidKinds := [.data, .data, .data, .data, .sentinel, .sentinel, .listed, .data, .pinned], laidTests := true, laidLooks := .later }
def ScriptJoinsUptoCardSaid : Prop := Claim7.holds Tryd.pinned (.plain (OpenSpec.upto scriptJoinsSpec)) scriptJoinsUptoCard

/-- THE SECOND FORM's CARD OF 'backsteplaw51.ScriptLines'. -/
def scriptLinesUptoCard : Claim7 := { stood := { row := scriptLinesUptoRow, standIns := [], harness := (true, "6659cf3c700f6305fdaa6c1a52458cf11e87721e4e59c04b6699a7ca03347fc7"), looks := true }, kinds := [], alts := [], laidByText := true, laidKinds := [.data, .data, .data, .data, .sentinel, .sentinel, .listed, .data, .pinned], laidTests := true, laidLooks := .later }
def ScriptLinesUptoCardSaid : Prop := Claim7.holds Tryd.pinned (.plain (OpenSpec.upto scriptLinesSpec)) scriptLinesUptoCard

/-- THE SECOND FORM's CARD OF 'backsteplaw51.ScriptTexts'. -/
def scriptTextsUptoCard : Claim7 := { stood := { row := scriptTextsUptoRow, standIns := [], harness := (true, "6659cf3c700f6305fdaa6c1a52458cf11e87721e4e59c04b6699a7ca03347fc7"), looks := true }, kinds := [], alts := [], laidByText := true, laidKinds := [.data, .data, .data, .data, .sentinel, .sentinel, .listed, .data, .pinned], laidTests := true, laidLooks := .later }
def ScriptTextsUptoCardSaid : Prop := Claim7.holds Tryd.pinned (.plain (OpenSpec.upto scriptTextsSpec)) scriptTextsUptoCard

/-- THE SECOND FORM's CARD OF 'backsteplaw51.ScriptLimit'. -/
def scriptLimitUptoCard : Claim7 := { stood := { row := scriptLimitUptoRow, standIns := [], harness := (true, "6659cf3c700f6305fdaa6c1a52458cf11e87721e4e59c04b6699a7ca03347fc7"), looks := true }, kinds := [], alts := [], laidByText := true, laidKinds := [.data, .data, .data, .data, .sentinel, .sentinel, .listed, .data, .pinned], laidTests := true, laidLooks := .later }
def ScriptLimitUptoCardSaid : Prop := Claim7.holds Tryd.pinned (.plain (OpenSpec.upto scriptLimitSpec)) scriptLimitUptoCard
end Rows
end Go.Proofs.YtmldgbfnjfkneaaDoor
