/-
  DERIVED. GIVEN WITH THE SEED: THE CARDS: each row of YtglggojbbenobaaGreatDoorRows.lean that lists a variable, with what it lists TIED to the program's text (the seventh form; the later family's looks); each row that meets fmt, with fmt's text TOLD by the authors' own Lean function (tested against real Go, not proved from fmt's source: count such statements apart). THE CARD IS WHAT COUNTS. Prove the row's statement (the work); the ties are given (YtglggojbbenobaaGreatDoorTie.lean); close each card by the builder's one call (the guide's Derived/Test/ToyasCard.lean, 'card_holds'). Laid BY PROGRAM, IN A SANDBOX (cutbox-door.mjs). By AI agents, Wed Nov 11 2026. No macro, syntax, notation, axiom, sorry.
-/
import Derived.Test.YtglggojbbenobaaGreatDoorRows
import GoSem.ClaimSeven
namespace Go.Proofs.YtglggojbbenobaaGreatDoor
namespace Rows

/-- THE TIED CARD OF 'backsteplaw22.AsmFormats'. -/
def asmFormatsCard : Claim7 := { stood := { row := asmFormatsRow, standIns := [], harness := (true, "0c43656900621fe8a862d6eb8388cb6391ce5a034439fd9b51f69a2a9fb36099"), looks := true }, kinds := [], alts := [], laidByText := true, laidKinds := [.data, .data, .data, .data, .sentinel, .sentinel, .pinned], laidTests := true, laidLooks := .later }
def AsmFormatsCardSaid : Prop := Claim7.holds Tryz.pinned (.plain (OpenSpec.ofChange asmFormatsSpec)) asmFormatsCard

/-- THE TIED CARD OF 'backsteplaw22.AsmParses'. -/
def asmParsesCard : Claim7 := { stood := { row := asmParsesRow, standIns := [], harness := (true, "0c43656900621fe8a862d6eb8388cb6391ce5a034439fd9b51f69a2a9fb36099"), looks := true }, kinds := [], alts := [], laidByText := true, laidKinds := [.data, .data, .data, .data, .sentinel, .sentinel, .pinned], laidTests := true, laidLooks := .later }
def AsmParsesCardSaid : Prop := Claim7.holds Tryz.pinned (.plain (OpenSpec.ofChange asmParsesSpec)) asmParsesCard

/-- THE TIED CARD OF 'backsteplaw22.AsmText'. -/
def asmTextCard : Claim7 := { stood := { row := asmTextRow, standIns := [], harness := (true, "0c43656900621fe8a862d6eb8388cb6391ce5a034439fd9b51f69a2a9fb36099"), looks := true }, kinds := [], alts := [], laidByText := true, laidKinds := [.data, .data, .data, .data, .sentinel, .sentinel, .pinned], laidTests := true, laidLooks := .later }
def AsmTextCardSaid : Prop := Claim7.holds Tryz.pinned (.plain (OpenSpec.ofChange asmTextSpec)) asmTextCard

/-- THE TIED CARD OF 'backsteplaw22.AsmJoins'. -/
def asmJoinsCard : Claim7 := { stood := { row := asmJoinsRow, standIns := [], harness := (true, "0c43656900621fe8a862d6eb8388cb6391ce5a034439fd9b51f69a2a9fb36099"), looks := true }, kinds := [], alts := [], laidByText := true, laidKinds := [.data, .data, .data, .data, .sentinel, .sentinel, .pinned], laidTests := true, laidLooks := .later }
def AsmJoinsCardSaid : Prop := Claim7.holds Tryz.pinned (.plain (OpenSpec.ofChange asmJoinsSpec)) asmJoinsCard

/-- THE TIED CARD OF 'backsteplaw22.AsmOrder'. -/
def asmOrderCard : Claim7 := { stood := { row := asmOrderRow, standIns := [], harness := (true, "0c43656900621fe8a862d6eb8388cb6391ce5a034439fd9b51f69a2a9fb36099"), looks := true }, kinds := [], alts := [], laidByText := true, laidKinds := [.data, .data, .data, .data, .sentinel, .sentinel, .pinned], laidTests := true, laidLooks := .later }
def AsmOrderCardSaid : Prop := Claim7.holds Tryz.pinned (.plain (OpenSpec.ofChange asmOrderSpec)) asmOrderCard

/-- THE TIED CARD OF 'backsteplaw22.AsmInverse'. -/
def asmInverseCard : Claim7 := { stood := { row := asmInverseRow, standIns := [], harness := (true, "0c43656900621fe8a862d6eb8388cb6391ce5a034439fd9b51f69a2a9fb36099"), looks := true }, kinds := [], alts := [], laidByText := true, laidKinds := [.data, .data, .data, .data, .sentinel, .sentinel, .pinned], laidTests := true, laidLooks := .later }
def AsmInverseCardSaid : Prop := Claim7.holds Tryz.pinned (.plain (OpenSpec.ofChange asmInverseSpec)) asmInverseCard

/-- THE TIED CARD OF 'backsteplaw22.AsmDecodes'. -/
def asmDecodesCard : Claim7 := { stood := { row := asmDecodesRow, standIns := [], harness := (true, "0c43656900621fe8a862d6eb8388cb6391ce5a034439fd9b51f69a2a9fb36099"), looks := true }, kinds := [], alts := [], laidByText := true, laidKinds := [.data, .data, .data, .data, .sentinel, .sentinel, .pinned], laidTests := true, laidLooks := .later }
def AsmDecodesCardSaid : Prop := Claim7.holds Tryz.pinned (.plain (OpenSpec.ofChange asmDecodesSpec)) asmDecodesCard

/-- THE TIED CARD OF 'backsteplaw22.AsmBytes'. -/
def asmBytesCard : Claim7 := { stood := { row := asmBytesRow, standIns := [], harness := (true, "0c43656900621fe8a862d6eb8388cb6391ce5a034439fd9b51f69a2a9fb36099"), looks := true }, kinds := [], alts := [], laidByText := true, laidKinds := [.data, .data, .data, .data, .sentinel, .sentinel, .pinned], laidTests := true, laidLooks := .later }
def AsmBytesCardSaid : Prop := Claim7.holds Tryz.pinned (.plain (OpenSpec.ofChange asmBytesSpec)) asmBytesCard

/-- THE TIED CARD OF 'backsteplaw22.AsmFixed'. -/
def asmFixedCard : Claim7 := { stood := { row := asmFixedRow, standIns := [], harness := (true, "0c43656900621fe8a862d6eb8388cb6391ce5a034439fd9b51f69a2a9fb36099"), looks := true }, kinds := [], alts := [], laidByText := true, laidKinds := [.data, .data, .data, .data, .sentinel, .sentinel, .pinned], laidTests := true, laidLooks := .later }
def AsmFixedCardSaid : Prop := Claim7.holds Tryz.pinned (.plain (OpenSpec.ofChange asmFixedSpec)) asmFixedCard

/-- THE SECOND FORM's CARD OF 'backsteplaw22.AsmFormats'. -/
def asmFormatsUptoCard : Claim7 := { stood := { row := asmFormatsUptoRow, standIns := [], harness := (true, "0c43656900621fe8a862d6eb8388cb6391ce5a034439fd9b51f69a2a9fb36099"), looks := true }, kinds := [], alts := [], laidByText := true, laidKinds := [.data, .data, .data, .data, .sentinel, .sentinel, .pinned], laidTests := true, laidLooks := .later }
def AsmFormatsUptoCardSaid : Prop := Claim7.holds Tryz.pinned (.plain (OpenSpec.upto asmFormatsSpec)) asmFormatsUptoCard

/-- THE SECOND FORM's CARD OF 'backsteplaw22.AsmParses'. -/
def asmParsesUptoCard : Claim7 := { stood := { row := asmParsesUptoRow, standIns := [], harness := (true, "0c43656900621fe8a862d6eb8388cb6391ce5a034439fd9b51f69a2a9fb36099"), looks := true }, kinds := [], alts := [], laidByText := true, laidKinds := [.data, .data, .data, .data, .sentinel, .sentinel, .pinned], laidTests := true, laidLooks := .later }
def AsmParsesUptoCardSaid : Prop := Claim7.holds Tryz.pinned (.plain (OpenSpec.upto asmParsesSpec)) asmParsesUptoCard

/-- THE SECOND FORM's CARD OF 'backsteplaw22.AsmText'. -/
def asmTextUptoCard : Claim7 := { stood := { row := asmTextUptoRow, standIns := [], harness := (true, "0c43656900621fe8a862d6eb8388cb6391ce5a034439fd9b51f69a2a9fb36099"), looks := true }, kinds := [], alts := [], laidByText := true, laidKinds := [.data, .data, .data, .data, .sentinel, .sentinel, .pinned], laidTests := true, laidLooks := .later }
def AsmTextUptoCardSaid : Prop := Claim7.holds Tryz.pinned (.plain (OpenSpec.upto asmTextSpec)) asmTextUptoCard

/-- THE SECOND FORM's CARD OF 'backsteplaw22.AsmJoins'. -/
def asmJoinsUptoCard : Claim7 := { stood := { row := asmJoinsUptoRow, standIns := [], harness := (true, "0c43656900621fe8a862d6eb8388cb6391ce5a034439fd9b51f69a2a9fb36099"), looks := true }, kinds := [], alts := [], laidByText := true, laidKinds := [.data, .data, .data, .data, .sentinel, .sentinel, .pinned], laidTests := true, laidLooks := .later }
def AsmJoinsUptoCardSaid : Prop := Claim7.holds Tryz.pinned (.plain (OpenSpec.upto asmJoinsSpec)) asmJoinsUptoCard

/-- THE SECOND FORM's CARD OF 'backsteplaw22.AsmOrder'. -/
def asmOrderUptoCard : Claim7 := { stood := { row := asmOrderUptoRow, standIns := [], harness := (true, "0c43656900621fe8a862d6eb8388cb6391ce5a034439fd9b51f69a2a9fb36099"), looks := true }, kinds := [], alts := [], laidByText := true, laidKinds := [.data, .data, .data, .data, .sentinel, .sentinel, .pinned], laidTests := true, laidLooks := .later }
def AsmOrderUptoCardSaid : Prop := Claim7.holds Tryz.pinned (.plain (OpenSpec.upto asmOrderSpec)) asmOrderUptoCard

/-- THE SECOND FORM's CARD OF 'backsteplaw22.AsmInverse'. -/
def asmInverseUptoCard : Claim7 := { stood := { row := asmInverseUptoRow, standIns := [], harness := (true, "0c43656900621fe8a862d6eb8388cb6391ce5a034439fd9b51f69a2a9fb36099"), looks := true }, kinds := [], alts := [], laidByText := true, laidKinds := [.data, .data, .data, .data, .sentinel, .sentinel, .pinned], laidTests := true, laidLooks := .later }
def AsmInverseUptoCardSaid : Prop := Claim7.holds Tryz.pinned (.plain (OpenSpec.upto asmInverseSpec)) asmInverseUptoCard

/-- THE SECOND FORM's CARD OF 'backsteplaw22.AsmDecodes'. -/
def asmDecodesUptoCard : Claim7 := { stood := { row := asmDecodesUptoRow, standIns := [], harness := (true, "0c43656900621fe8a862d6eb8388cb6391ce5a034439fd9b51f69a2a9fb36099"), looks := true }, kinds := [], alts := [], laidByText := true, laidKinds := [.data, .data, .data, .data, .sentinel, .sentinel, .pinned], laidTests := true, laidLooks := .later }
def AsmDecodesUptoCardSaid : Prop := Claim7.holds Tryz.pinned (.plain (OpenSpec.upto asmDecodesSpec)) asmDecodesUptoCard

/-- THE SECOND FORM's CARD OF 'backsteplaw22.AsmBytes'. -/
def asmBytesUptoCard : Claim7 := { stood := { row := asmBytesUptoRow, standIns := [], harness := (true, "0c43656900621fe8a862d6eb8388cb6391ce5a034439fd9b51f69a2a9fb36099"), looks := true }, kinds := [], alts := [], laidByText := true, laidKinds := [.data, .data, .data, .data, .sentinel, .sentinel, .pinned], laidTests := true, laidLooks := .later }
def AsmBytesUptoCardSaid : Prop := Claim7.holds Tryz.pinned (.plain (OpenSpec.upto asmBytesSpec)) asmBytesUptoCard

/-- THE SECOND FORM's CARD OF 'backsteplaw22.AsmFixed'. -/
def asmFixedUptoCard : Claim7 := { stood := { row := asmFixedUptoRow, standIns := [], harness := (true, "0c43656900621fe8a862d6eb8388cb6391ce5a034439fd9b51f69a2a9fb36099"), looks := true }, kinds := [], alts := [], laidByText := true, laidKinds := [.data, .data, .data, .data, .sentinel, .sentinel, .pinned], laidTests := true, laidLooks := .later }
def AsmFixedUptoCardSaid : Prop := Claim7.holds Tryz.pinned (.plain (OpenSpec.upto asmFixedSpec)) asmFixedUptoCard
end Rows
end Go.Proofs.YtglggojbbenobaaGreatDoor
