/-
  DERIVED. GIVEN WITH THE SEED: THE CARDS: each row of YtoofgblmpjndjaaGreatDoorRows.lean that lists a variable, with what it lists TIED to the program's text (the seventh form; the later family's looks); each row that meets fmt, with fmt's text TOLD by the authors' own Lean function (tested against real Go, not proved from fmt's source: count such statements apart). THE CARD IS WHAT COUNTS. Prove the row's statement (the work); the ties are given (YtoofgblmpjndjaaGreatDoorTie.lean); close each card by the builder's one call (the guide's Derived/Test/ToyasCard.lean, 'card_holds'). Laid BY PROGRAM, IN A SANDBOX (cutbox-door.mjs). By AI agents, Wed Nov 11 2026. No macro, syntax, notation, axiom, sorry.
-/
import Derived.Test.YtoofgblmpjndjaaGreatDoorRows
import GoSem.ClaimSeven
namespace Go.Proofs.YtoofgblmpjndjaaGreatDoor
namespace Rows

/-- THE TIED CARD OF 'darkroomlaw24.ScriptParses'. -/
def scriptParsesCard : Claim7 := { stood := { row := scriptParsesRow, standIns := [], harness := (true, "db45581c31ffb79472af4806c5185e2fed547fb9d95042e2bd1462b4921d3f37"), looks := true }, kinds := [], alts := [], laidByText := true, laidKinds := [.data, .data, .data, .data, .sentinel, .sentinel, .pinned], laidTests := true, laidLooks := .later }
def ScriptParsesCardSaid : Prop := Claim7.holds Tryz.pinned (.plain (OpenSpec.ofChange scriptParsesSpec)) scriptParsesCard

/-- THE TIED CARD OF 'darkroomlaw24.ScriptBack'. -/
def scriptBackCard : Claim7 := { stood := { row := scriptBackRow, standIns := [], harness := (true, "db45581c31ffb79472af4806c5185e2fed547fb9d95042e2bd1462b4921d3f37"), looks := true }, kinds := [], alts := [], laidByText := true, laidKinds := [.data, .data, .data, .data, .sentinel, .sentinel, .pinned], laidTests := true, laidLooks := .later }
def ScriptBackCardSaid : Prop := Claim7.holds Tryz.pinned (.plain (OpenSpec.ofChange scriptBackSpec)) scriptBackCard

/-- THE TIED CARD OF 'darkroomlaw24.ScriptJoins'. -/
def scriptJoinsCard : Claim7 := { stood := { row := scriptJoinsRow, standIns := [], harness := (true, "db45581c31ffb79472af4806c5185e2fed547fb9d95042e2bd1462b4921d3f37"), looks := true }, kinds := [], alts := [], laidByText := true, laidKinds := [.data, .data, .data, .data, .sentinel, .sentinel, .pinned], laidTests := true, laidLooks := .later }
def ScriptJoinsCardSaid : Prop := Claim7.holds Tryz.pinned (.plain (OpenSpec.ofChange scriptJoinsSpec)) scriptJoinsCard

/-- THE TIED CARD OF 'darkroomlaw24.ScriptWrites'. -/
def scriptWritesCard : Claim7 := { stood := { row := scriptWritesRow, standIns := [], harness := (true, "db45581c31ffb79472af4806c5185e2fed547fb9d95042e2bd1462b4921d3f37"), looks := true }, kinds := [], alts := [], laidByText := true, laidKinds := [.data, .data, .data, .data, .sentinel, .sentinel, .pinned], laidTests := true, laidLooks := .later }
def ScriptWritesCardSaid : Prop := Claim7.holds Tryz.pinned (.plain (OpenSpec.ofChange scriptWritesSpec)) scriptWritesCard

/-- THE TIED CARD OF 'darkroomlaw24.ScriptOwn'. -/
def scriptOwnCard : Claim7 := { stood := { row := scriptOwnRow, standIns := [], harness := (true, "db45581c31ffb79472af4806c5185e2fed547fb9d95042e2bd1462b4921d3f37"), looks := true }, kinds := [], alts := [], laidByText := true, laidKinds := [.data, .data, .data, .data, .sentinel, .sentinel, .pinned], laidTests := true, laidLooks := .later }
def ScriptOwnCardSaid : Prop := Claim7.holds Tryz.pinned (.plain (OpenSpec.ofChange scriptOwnSpec)) scriptOwnCard

/-- THE SECOND FORM's CARD OF 'darkroomlaw24.ScriptParses'. -/
def scriptParsesUptoCard : Claim7 := { stood := { row := scriptParsesUptoRow, standIns := [], harness := (true, "db45581c31ffb79472af4806c5185e2fed547fb9d95042e2bd1462b4921d3f37"), looks := true }, kinds := [], alts := [], laidByText := true, laidKinds := [.data, .data, .data, .data, .sentinel, .sentinel, .pinned], laidTests := true, laidLooks := .later }
def ScriptParsesUptoCardSaid : Prop := Claim7.holds Tryz.pinned (.plain (OpenSpec.upto scriptParsesSpec)) scriptParsesUptoCard

/-- THE SECOND FORM's CARD OF 'darkroomlaw24.ScriptBack'. -/
def scriptBackUptoCard : Claim7 := { stood := { row := scriptBackUptoRow, standIns := [], harness := (true, "db45581c31ffb79472af4806c5185e2fed547fb9d95042e2bd1462b4921d3f37"), looks := true }, kinds := [], alts := [], laidByText := true, laidKinds := [.data, .data, .data, .data, .sentinel, .sentinel, .pinned], laidTests := true, laidLooks := .later }
def ScriptBackUptoCardSaid : Prop := Claim7.holds Tryz.pinned (.plain (OpenSpec.upto scriptBackSpec)) scriptBackUptoCard

/-- THE SECOND FORM's CARD OF 'darkroomlaw24.ScriptJoins'. -/
def scriptJoinsUptoCard : Claim7 := { stood := { row := scriptJoinsUptoRow, standIns := [], harness := (true, "db45581c31ffb79472af4806c5185e2fed547fb9d95042e2bd1462b4921d3f37"), looks := true }, kinds := [], alts := [], laidByText := true, laidKinds := [.data, .data, .data, .data, .sentinel, .sentinel, .pinned], laidTests := true, laidLooks := .later }
def ScriptJoinsUptoCardSaid : Prop := Claim7.holds Tryz.pinned (.plain (OpenSpec.upto scriptJoinsSpec)) scriptJoinsUptoCard

/-- THE SECOND FORM's CARD OF 'darkroomlaw24.ScriptWrites'. -/
def scriptWritesUptoCard : Claim7 := { stood := { row := scriptWritesUptoRow, standIns := [], harness := (true, "db45581c31ffb79472af4806c5185e2fed547fb9d95042e2bd1462b4921d3f37"), looks := true }, kinds := [], alts := [], laidByText := true, laidKinds := [.data, .data, .data, .data, .sentinel, .sentinel, .pinned], laidTests := true, laidLooks := .later }
def ScriptWritesUptoCardSaid : Prop := Claim7.holds Tryz.pinned (.plain (OpenSpec.upto scriptWritesSpec)) scriptWritesUptoCard

/-- THE SECOND FORM's CARD OF 'darkroomlaw24.ScriptOwn'. -/
def scriptOwnUptoCard : Claim7 := { stood := { row := scriptOwnUptoRow, standIns := [], harness := (true, "db45581c31ffb79472af4806c5185e2fed547fb9d95042e2bd1462b4921d3f37"), looks := true }, kinds := [], alts := [], laidByText := true, laidKinds := [.data, .data, .data, .data, .sentinel, .sentinel, .pinned], laidTests := true, laidLooks := .later }
def ScriptOwnUptoCardSaid : Prop := Claim7.holds Tryz.pinned (.plain (OpenSpec.upto scriptOwnSpec)) scriptOwnUptoCard
end Rows
end Go.Proofs.YtoofgblmpjndjaaGreatDoor
