/-
  DERIVED. GIVEN WITH THE SEED: THE CARDS: each row of YtbmlopklhgladaaDoorRows.lean that lists a variable, with what it lists TIED to the program's text (the seventh form; the later family's looks); each row that meets fmt, with fmt's text TOLD by the authors' own Lean function (tested against real Go, not proved from fmt's source: count such statements apart). THE CARD IS WHAT COUNTS. Prove the row's statement (the work); the ties are given (YtbmlopklhgladaaDoorTie.lean); close each card by the builder's one call (the guide's Derived/Test/ToyasCard.lean, 'card_holds'). Laid BY PROGRAM, IN A SANDBOX (cutbox-door.mjs). By AI agents, Wed Nov 11 2026. No macro, syntax, notation, axiom, sorry.
-/
import Derived.Test.YtbmlopklhgladaaDoorRows
import GoSem.ClaimSeven
namespace Go.Proofs.YtbmlopklhgladaaDoor
namespace Rows

/-- THE TIED CARD OF 'darkroomlaw10.PnmReads'. -/
def pnmReadsCard : Claim7 := { stood := { row := pnmReadsRow, standIns := [], harness := (true, "dfeba3b732b6e20dbb4011f6fa388b6972aaef488db469e35bd58f3b1745fee3"), looks := true }, kinds := [], alts := [], laidByText := true, laidKinds := [.data, .data, .data, .data, .sentinel, .sentinel, .sentinel, .pinned], laidTests := true, laidLooks := .later }
def PnmReadsCardSaid : Prop := Claim7.holds Tryd.pinned (.plain (OpenSpec.ofChange pnmReadsSpec)) pnmReadsCard

/-- THE TIED CARD OF 'darkroomlaw10.PnmWrites'. -/
def pnmWritesCard : Claim7 := { stood := { row := pnmWritesRow, standIns := [], harness := (true, "dfeba3b732b6e20dbb4011f6fa388b6972aaef488db469e35bd58f3b1745fee3"), looks := true }, kinds := [], alts := [], laidByText := true, laidKinds := [.data, .data, .data, .data, .sentinel, .sentinel, .sentinel, .pinned], laidTests := true, laidLooks := .later }
def PnmWritesCardSaid : Prop := Claim7.holds Tryd.pinned (.plain (OpenSpec.ofChange pnmWritesSpec)) pnmWritesCard

/-- THE TIED CARD OF 'darkroomlaw10.PnmBack'. -/
def pnmBackCard : Claim7 := { stood := { row := pnmBackRow, standIns := [], harness := (true, "dfeba3b732b6e20dbb4011f6fa388b6972aaef488db469e35bd58f3b1745fee3"), looks := true }, kinds := [], alts := [], laidByText := true, laidKinds := [.data, .data, .data, .data, .sentinel, .sentinel, .sentinel, .pinned], laidTests := true, laidLooks := .later }
def PnmBackCardSaid : Prop := Claim7.holds Tryd.pinned (.plain (OpenSpec.ofChange pnmBackSpec)) pnmBackCard

/-- THE TIED CARD OF 'darkroomlaw10.PnmLimits'. -/
def pnmLimitsCard : Claim7 := { stood := { row := pnmLimitsRow, standIns := [], harness := (true, "dfeba3b732b6e20dbb4011f6fa388b6972aaef488db469e35bd58f3b1745fee3"), looks := true }, kinds := [], alts := [], laidByText := true, laidKinds := [.data, .data, .data, .data, .sentinel, .sentinel, .sentinel, .pinned], laidTests := true, laidLooks := .later }
def PnmLimitsCardSaid : Prop := Claim7.holds Tryd.pinned (.plain (OpenSpec.ofChange pnmLimitsSpec)) pnmLimitsCard

/-- THE TIED CARD OF 'darkroomlaw10.PnmOwn'. -/
def pnmOwnCard : Claim7 := { stood := { row := pnmOwnRow, standIns := [], harness := (true, "dfeba3b732b6e20dbb4011f6fa388b6972aaef488db469e35bd58f3b1745fee3"), looks := true }, kinds := [], alts := [], laidByText := true, laidKinds := [.data, .data, .data, .data, .sentinel, .sentinel, .sentinel, .pinned], laidTests := true, laidLooks := .later }
def PnmOwnCardSaid : Prop := Claim7.holds Tryd.pinned (.plain (OpenSpec.ofChange pnmOwnSpec)) pnmOwnCard

/-- THE SECOND FORM's CARD OF 'darkroomlaw10.PnmReads'. -/
def pnmReadsUptoCard : Claim7 := { stood := { row := pnmReadsUptoRow, standIns := [], harness := (true, "dfeba3b732b6e20dbb4011f6fa388b6972aaef488db469e35bd58f3b1745fee3"), looks := true }, kinds := [], alts := [], laidByText := true, laidKinds := [.data, .data, .data, .data, .sentinel, .sentinel, .sentinel, .pinned], laidTests := true, laidLooks := .later }
def PnmReadsUptoCardSaid : Prop := Claim7.holds Tryd.pinned (.plain (OpenSpec.upto pnmReadsSpec)) pnmReadsUptoCard

/-- THE SECOND FORM's CARD OF 'darkroomlaw10.PnmWrites'. -/
def pnmWritesUptoCard : Claim7 := { stood := { row := pnmWritesUptoRow, standIns := [], harness := (true, "dfeba3b732b6e20dbb4011f6fa388b6972aaef488db469e35bd58f3b1745fee3"), looks := true }, kinds := [], alts := [], laidByText := true, laidKinds := [.data, .data, .data, .data, .sentinel, .sentinel, .sentinel, .pinned], laidTests := true, laidLooks := .later }
def PnmWritesUptoCardSaid : Prop := Claim7.holds Tryd.pinned (.plain (OpenSpec.upto pnmWritesSpec)) pnmWritesUptoCard

/-- THE SECOND FORM's CARD OF 'darkroomlaw10.PnmBack'. -/
def pnmBackUptoCard : Claim7 := { stood := { row := pnmBackUptoRow, standIns := [], harness := (true, "dfeba3b732b6e20dbb4011f6fa388b6972aaef488db469e35bd58f3b1745fee3"), looks := true }, kinds := [], alts := [], laidByText := true, laidKinds := [.data, .data, .data, .data, .sentinel, .sentinel, .sentinel, .pinned], laidTests := true, laidLooks := .later }
def PnmBackUptoCardSaid : Prop := Claim7.holds Tryd.pinned (.plain (OpenSpec.upto pnmBackSpec)) pnmBackUptoCard

/-- THE SECOND FORM's CARD OF 'darkroomlaw10.PnmLimits'. -/
def pnmLimitsUptoCard : Claim7 := { stood := { row := pnmLimitsUptoRow, standIns := [], harness := (true, "dfeba3b732b6e20dbb4011f6fa388b6972aaef488db469e35bd58f3b1745fee3"), looks := true }, kinds := [], alts := [], laidByText := true, laidKinds := [.data, .data, .data, .data, .sentinel, .sentinel, .sentinel, .pinned], laidTests := true, laidLooks := .later }
def PnmLimitsUptoCardSaid : Prop := Claim7.holds Tryd.pinned (.plain (OpenSpec.upto pnmLimitsSpec)) pnmLimitsUptoCard

/-- THE SECOND FORM's CARD OF 'darkroomlaw10.PnmOwn'. -/
def pnmOwnUptoCard : Claim7 := { stood := { row := pnmOwnUptoRow, standIns := [], harness := (true, "dfeba3b732b6e20dbb4011f6fa388b6972aaef488db469e35bd58f3b1745fee3"), looks := true }, kinds := [], alts := [], laidByText := true, laidKinds := [.data, .data, .data, .data, .sentinel, .sentinel, .sentinel, .pinned], laidTests := true, laidLooks := .later }
def PnmOwnUptoCardSaid : Prop := Claim7.holds Tryd.pinned (.plain (OpenSpec.upto pnmOwnSpec)) pnmOwnUptoCard
end Rows
end Go.Proofs.YtbmlopklhgladaaDoor
