/-
  DERIVED. GIVEN WITH THE SEED: THE CARDS: each row of YtekifiblehmafaaDoorRows.lean that lists a variable, with what it lists TIED to the program's text (the seventh form; the later family's looks); each row that meets fmt, with fmt's text TOLD by the authors' own Lean function (tested against real Go, not proved from fmt's source: count such statements apart). THE CARD IS WHAT COUNTS. Prove the row's statement (the work); the ties are given (YtekifiblehmafaaDoorTie.lean); close each card by the builder's one call (the guide's Derived/Test/ToyasCard.lean, 'card_holds'). Laid BY PROGRAM, IN A SANDBOX (cutbox-door.mjs). By AI agents, Wed Nov 11 2026. No macro, syntax, notation, axiom, sorry.
-/
import Derived.Test.YtekifiblehmafaaDoorRows
import GoSem.ClaimSeven
namespace Go.Proofs.YtekifiblehmafaaDoor
namespace Rows

/-- THE TIED CARD OF 'colophonlaw15.EmitWrites'. -/
def emitWritesCard : Claim7 := { stood := { row := emitWritesRow, standIns := [], harness := (true, "05017f46e82072ab2e04bdb83b8b5a00f8a142450965470039bd0b24fd0e83e2"), looks := false }, kinds := [], alts := [], laidByText := true, laidKinds := [.data, .data, .data, .data, .pinned], laidTests := true, laidLooks := .later }
def EmitWritesCardSaid : Prop := Claim7.holds Tryd.pinned (.plain (OpenSpec.ofChange emitWritesSpec)) emitWritesCard

/-- THE TIED CARD OF 'colophonlaw15.EmitJoins'. -/
def emitJoinsCard : Claim7 := { stood := { row := emitJoinsRow, standIns := [], harness := (true, "05017f46e82072ab2e04bdb83b8b5a00f8a142450965470039bd0b24fd0e83e2"), looks := false }, kinds := [], alts := [], laidByText := true, laidKinds := [.data, .data, .data, .data, .pinned], laidTests := true, laidLooks := .later }
def EmitJoinsCardSaid : Prop := Claim7.holds Tryd.pinned (.plain (OpenSpec.ofChange emitJoinsSpec)) emitJoinsCard

/-- THE TIED CARD OF 'colophonlaw15.EmitChecks'. -/
def emitChecksCard : Claim7 := { stood := { row := emitChecksRow, standIns := [], harness := (true, "05017f46e82072ab2e04bdb83b8b5a00f8a142450965470039bd0b24fd0e83e2"), looks := false }, kinds := [], alts := [], laidByText := true, laidKinds := [.data, .data, .data, .data, .pinned], laidTests := true, laidLooks := .later }
def EmitChecksCardSaid : Prop := Claim7.holds Tryd.pinned (.plain (OpenSpec.ofChange emitChecksSpec)) emitChecksCard

/-- THE TIED CARD OF 'colophonlaw02.DigitsTexts'. -/
def digitsTextsCard : Claim7 := { stood := { row := digitsTextsRow, standIns := [], harness := (true, "05017f46e82072ab2e04bdb83b8b5a00f8a142450965470039bd0b24fd0e83e2"), looks := false }, kinds := [], alts := [], laidByText := true, laidKinds := [.data, .data, .data, .data, .pinned], laidTests := true, laidLooks := .later }
def DigitsTextsCardSaid : Prop := Claim7.holds Tryd.pinned (.plain (OpenSpec.ofChange digitsTextsSpec)) digitsTextsCard

/-- THE TIED CARD OF 'colophonlaw02.DigitsParses'. -/
def digitsParsesCard : Claim7 := { stood := { row := digitsParsesRow, standIns := [], harness := (true, "05017f46e82072ab2e04bdb83b8b5a00f8a142450965470039bd0b24fd0e83e2"), looks := false }, kinds := [], alts := [], laidByText := true, laidKinds := [.data, .data, .data, .data, .pinned], laidTests := true, laidLooks := .later }
def DigitsParsesCardSaid : Prop := Claim7.holds Tryd.pinned (.plain (OpenSpec.ofChange digitsParsesSpec)) digitsParsesCard

/-- THE TIED CARD OF 'colophonlaw02.DigitsNears'. -/
def digitsNearsCard : Claim7 := { stood := { row := digitsNearsRow, standIns := [], harness := (true, "05017f46e82072ab2e04bdb83b8b5a00f8a142450965470039bd0b24fd0e83e2"), looks := false }, kinds := [], alts := [], laidByText := true, laidKinds := [.data, .data, .data, .data, .pinned], laidTests := true, laidLooks := .later }
def DigitsNearsCardSaid : Prop := Claim7.holds Tryd.pinned (.plain (OpenSpec.ofChange digitsNearsSpec)) digitsNearsCard

/-- THE TIED CARD OF 'colophonlaw02.DigitsBack'. -/
def digitsBackCard : Claim7 := { stood := { row := digitsBackRow, standIns := [], harness := (true, "05017f46e82072ab2e04bdb83b8b5a00f8a142450965470039bd0b24fd0e83e2"), looks := false }, kinds := [], alts := [], laidByText := true, laidKinds := [.data, .data, .data, .data, .pinned], laidTests := true, laidLooks := .later }
def DigitsBackCardSaid : Prop := Claim7.holds Tryd.pinned (.plain (OpenSpec.ofChange digitsBackSpec)) digitsBackCard

/-- THE TIED CARD OF 'colophonlaw02.DigitsAgain'. -/
def digitsAgainCard : Claim7 := { stood := { row := digitsAgainRow, standIns := [], harness := (true, "05017f46e82072ab2e04bdb83b8b5a00f8a142450965470039bd0b24fd0e83e2"), looks := false }, kinds := [], alts := [], laidByText := true, laidKinds := [.data, .data, .data, .data, .pinned], laidTests := true, laidLooks := .later }
def DigitsAgainCardSaid : Prop := Claim7.holds Tryd.pinned (.plain (OpenSpec.ofChange digitsAgainSpec)) digitsAgainCard

/-- THE TIED CARD OF 'colophonlaw02.DigitsLess'. -/
def digitsLessCard : Claim7 := { stood := { row := digitsLessRow, standIns := [], harness := (true, "05017f46e82072ab2e04bdb83b8b5a00f8a142450965470039bd0b24fd0e83e2"), looks := false }, kinds := [], alts := [], laidByText := true, laidKinds := [.data, .data, .data, .data, .pinned], laidTests := true, laidLooks := .later }
def DigitsLessCardSaid : Prop := Claim7.holds Tryd.pinned (.plain (OpenSpec.ofChange digitsLessSpec)) digitsLessCard

/-- THE SECOND FORM's CARD OF 'colophonlaw15.EmitWrites'. -/
def emitWritesUptoCard : Claim7 := { stood := { row := emitWritesUptoRow, standIns := [], harness := (true, "05017f46e82072ab2e04bdb83b8b5a00f8a142450965470039bd0b24fd0e83e2"), looks := false }, kinds := [], alts := [], laidByText := true, laidKinds := [.data, .data, .data, .data, .pinned], laidTests := true, laidLooks := .later }
def EmitWritesUptoCardSaid : Prop := Claim7.holds Tryd.pinned (.plain (OpenSpec.upto emitWritesSpec)) emitWritesUptoCard

/-- THE SECOND FORM's CARD OF 'colophonlaw15.EmitJoins'. -/
def emitJoinsUptoCard : Claim7 := { stood := { row := emitJoinsUptoRow, standIns := [], harness := (true, "05017f46e82072ab2e04bdb83b8b5a00f8a142450965470039bd0b24fd0e83e2"), looks := false }, kinds := [], alts := [], laidByText := true, laidKinds := [.data, .data, .data, .data, .pinned], laidTests := true, laidLooks := .later }
def EmitJoinsUptoCardSaid : Prop := Claim7.holds Tryd.pinned (.plain (OpenSpec.upto emitJoinsSpec)) emitJoinsUptoCard

/-- THE SECOND FORM's CARD OF 'colophonlaw15.EmitChecks'. -/
def emitChecksUptoCard : Claim7 := { stood := { row := emitChecksUptoRow, standIns := [], harness := (true, "05017f46e82072ab2e04bdb83b8b5a00f8a142450965470039bd0b24fd0e83e2"), looks := false }, kinds := [], alts := [], laidByText := true, laidKinds := [.data, .data, .data, .data, .pinned], laidTests := true, laidLooks := .later }
def EmitChecksUptoCardSaid : Prop := Claim7.holds Tryd.pinned (.plain (OpenSpec.upto emitChecksSpec)) emitChecksUptoCard

/-- THE SECOND FORM's CARD OF 'colophonlaw02.DigitsTexts'. -/
def digitsTextsUptoCard : Claim7 := { stood := { row := digitsTextsUptoRow, standIns := [], harness := (true, "05017f46e82072ab2e04bdb83b8b5a00f8a142450965470039bd0b24fd0e83e2"), looks := false }, kinds := [], alts := [], laidByText := true, laidKinds := [.data, .data, .data, .data, .pinned], laidTests := true, laidLooks := .later }
def DigitsTextsUptoCardSaid : Prop := Claim7.holds Tryd.pinned (.plain (OpenSpec.upto digitsTextsSpec)) digitsTextsUptoCard

/-- THE SECOND FORM's CARD OF 'colophonlaw02.DigitsParses'. -/
def digitsParsesUptoCard : Claim7 := { stood := { row := digitsParsesUptoRow, standIns := [], harness := (true, "05017f46e82072ab2e04bdb83b8b5a00f8a142450965470039bd0b24fd0e83e2"), looks := false }, kinds := [], alts := [], laidByText := true, laidKinds := [.data, .data, .data, .data, .pinned], laidTests := true, laidLooks := .later }
def DigitsParsesUptoCardSaid : Prop := Claim7.holds Tryd.pinned (.plain (OpenSpec.upto digitsParsesSpec)) digitsParsesUptoCard

/-- THE SECOND FORM's CARD OF 'colophonlaw02.DigitsNears'. -/
def digitsNearsUptoCard : Claim7 := { stood := { row := digitsNearsUptoRow, standIns := [], harness := (true, "05017f46e82072ab2e04bdb83b8b5a00f8a142450965470039bd0b24fd0e83e2"), looks := false }, kinds := [], alts := [], laidByText := true, laidKinds := [.data, .data, .data, .data, .pinned], laidTests := true, laidLooks := .later }
def DigitsNearsUptoCardSaid : Prop := Claim7.holds Tryd.pinned (.plain (OpenSpec.upto digitsNearsSpec)) digitsNearsUptoCard

/-- THE SECOND FORM's CARD OF 'colophonlaw02.DigitsBack'. -/
def digitsBackUptoCard : Claim7 := { stood := { row := digitsBackUptoRow, standIns := [], harness := (true, "05017f46e82072ab2e04bdb83b8b5a00f8a142450965470039bd0b24fd0e83e2"), looks := false }, kinds := [], alts := [], laidByText := true, laidKinds := [.data, .data, .data, .data, .pinned], laidTests := true, laidLooks := .later }
def DigitsBackUptoCardSaid : Prop := Claim7.holds Tryd.pinned (.plain (OpenSpec.upto digitsBackSpec)) digitsBackUptoCard

/-- THE SECOND FORM's CARD OF 'colophonlaw02.DigitsAgain'. -/
def digitsAgainUptoCard : Claim7 := { stood := { row := digitsAgainUptoRow, standIns := [], harness := (true, "05017f46e82072ab2e04bdb83b8b5a00f8a142450965470039bd0b24fd0e83e2"), looks := false }, kinds := [], alts := [], laidByText := true, laidKinds := [.data, .data, .data, .data, .pinned], laidTests := true, laidLooks := .later }
def DigitsAgainUptoCardSaid : Prop := Claim7.holds Tryd.pinned (.plain (OpenSpec.upto digitsAgainSpec)) digitsAgainUptoCard

/-- THE SECOND FORM's CARD OF 'colophonlaw02.DigitsLess'. -/
def digitsLessUptoCard : Claim7 := { stood := { row := digitsLessUptoRow, standIns := [], harness := (true, "05017f46e82072ab2e04bdb83b8b5a00f8a142450965470039bd0b24fd0e83e2"), looks := false }, kinds := [], alts := [], laidByText := true, laidKinds := [.data, .data, .data, .data, .pinned], laidTests := true, laidLooks := .later }
def DigitsLessUptoCardSaid : Prop := Claim7.holds Tryd.pinned (.plain (OpenSpec.upto digitsLessSpec)) digitsLessUptoCard
end Rows
end Go.Proofs.YtekifiblehmafaaDoor
