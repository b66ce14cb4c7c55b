/-
  DERIVED. GIVEN WITH THE SEED: THE CARDS: each row of YtigpaaelggnffaaGreatDoorRows.lean that lists a variable, with what it lists TIED to the program's text (the seventh form; the later family's looks); each row that meets fmt, with fmt's text TOLD by the authors' own Lean function (tested against real Go, not proved from fmt's source: count such statements apart). THE CARD IS WHAT COUNTS. Prove the row's statement (the work); the ties are given (YtigpaaelggnffaaGreatDoorTie.lean); close each card by the builder's one call (the guide's Derived/Test/ToyasCard.lean, 'card_holds'). Laid BY PROGRAM, IN A SANDBOX (cutbox-door.mjs). By AI agents, Wed Nov 11 2026. No macro, syntax, notation, axiom, sorry.
-/
import Derived.Test.YtigpaaelggnffaaGreatDoorRows
import GoSem.ClaimSeven
namespace Go.Proofs.YtigpaaelggnffaaGreatDoor
namespace Rows

/-- THE TIED CARD OF 'tesseralaw23.TallyCounts'. -/
def tallyCountsCard : Claim7 := { stood := { row := tallyCountsRow, standIns := [], harness := (true, "6d730cead39fc840e133e75c89a53f44778734265af599c2a1eda44296d06e04"), looks := false }, kinds := [], alts := [], laidByText := true, laidKinds := [.data, .pinned], laidTests := true, laidLooks := .later }
def TallyCountsCardSaid : Prop := Claim7.holds Tryz.pinned (.plain (OpenSpec.ofChange tallyCountsSpec)) tallyCountsCard

/-- THE TIED CARD OF 'tesseralaw23.TallyTurned'. -/
def tallyTurnedCard : Claim7 := { stood := { row := tallyTurnedRow, standIns := [], harness := (true, "6d730cead39fc840e133e75c89a53f44778734265af599c2a1eda44296d06e04"), looks := false }, kinds := [], alts := [], laidByText := true, laidKinds := [.data, .pinned], laidTests := true, laidLooks := .later }
def TallyTurnedCardSaid : Prop := Claim7.holds Tryz.pinned (.plain (OpenSpec.ofChange tallyTurnedSpec)) tallyTurnedCard

/-- THE TIED CARD OF 'tesseralaw23.TallyOrders'. -/
def tallyOrdersCard : Claim7 := { stood := { row := tallyOrdersRow, standIns := [], harness := (true, "6d730cead39fc840e133e75c89a53f44778734265af599c2a1eda44296d06e04"), looks := false }, kinds := [], alts := [], laidByText := true, laidKinds := [.data, .pinned], laidTests := true, laidLooks := .later }
def TallyOrdersCardSaid : Prop := Claim7.holds Tryz.pinned (.plain (OpenSpec.ofChange tallyOrdersSpec)) tallyOrdersCard

/-- THE TIED CARD OF 'tesseralaw23.TallyKept'. -/
def tallyKeptCard : Claim7 := { stood := { row := tallyKeptRow, standIns := [], harness := (true, "6d730cead39fc840e133e75c89a53f44778734265af599c2a1eda44296d06e04"), looks := false }, kinds := [], alts := [], laidByText := true, laidKinds := [.data, .pinned], laidTests := true, laidLooks := .later }
def TallyKeptCardSaid : Prop := Claim7.holds Tryz.pinned (.plain (OpenSpec.ofChange tallyKeptSpec)) tallyKeptCard

/-- THE TIED CARD OF 'tesseralaw23.TallyAsks'. -/
def tallyAsksCard : Claim7 := { stood := { row := tallyAsksRow, standIns := [], harness := (true, "6d730cead39fc840e133e75c89a53f44778734265af599c2a1eda44296d06e04"), looks := false }, kinds := [], alts := [], laidByText := true, laidKinds := [.data, .pinned], laidTests := true, laidLooks := .later }
def TallyAsksCardSaid : Prop := Claim7.holds Tryz.pinned (.plain (OpenSpec.ofChange tallyAsksSpec)) tallyAsksCard

/-- THE TIED CARD OF 'tesseralaw23.TallySums'. -/
def tallySumsCard : Claim7 := { stood := { row := tallySumsRow, standIns := [], harness := (true, "6d730cead39fc840e133e75c89a53f44778734265af599c2a1eda44296d06e04"), looks := false }, kinds := [], alts := [], laidByText := true, laidKinds := [.data, .pinned], laidTests := true, laidLooks := .later }
def TallySumsCardSaid : Prop := Claim7.holds Tryz.pinned (.plain (OpenSpec.ofChange tallySumsSpec)) tallySumsCard

/-- THE TIED CARD OF 'tesseralaw23.TallyNumbers'. -/
def tallyNumbersCard : Claim7 := { stood := { row := tallyNumbersRow, standIns := [], harness := (true, "6d730cead39fc840e133e75c89a53f44778734265af599c2a1eda44296d06e04"), looks := false }, kinds := [], alts := [], laidByText := true, laidKinds := [.data, .pinned], laidTests := true, laidLooks := .later }
def TallyNumbersCardSaid : Prop := Claim7.holds Tryz.pinned (.plain (OpenSpec.ofChange tallyNumbersSpec)) tallyNumbersCard

/-- THE SECOND FORM's CARD OF 'tesseralaw23.TallyCounts'. -/
def tallyCountsUptoCard : Claim7 := { stood := { row := tallyCountsUptoRow, standIns := [], harness := (true, "6d730cead39fc840e133e75c89a53f44778734265af599c2a1eda44296d06e04"), looks := false }, kinds := [], alts := [], laidByText := true, laidKinds := [.data, .pinned], laidTests := true, laidLooks := .later }
def TallyCountsUptoCardSaid : Prop := Claim7.holds Tryz.pinned (.plain (OpenSpec.upto tallyCountsSpec)) tallyCountsUptoCard

/-- THE SECOND FORM's CARD OF 'tesseralaw23.TallyTurned'. -/
def tallyTurnedUptoCard : Claim7 := { stood := { row := tallyTurnedUptoRow, standIns := [], harness := (true, "6d730cead39fc840e133e75c89a53f44778734265af599c2a1eda44296d06e04"), looks := false }, kinds := [], alts := [], laidByText := true, laidKinds := [.data, .pinned], laidTests := true, laidLooks := .later }
def TallyTurnedUptoCardSaid : Prop := Claim7.holds Tryz.pinned (.plain (OpenSpec.upto tallyTurnedSpec)) tallyTurnedUptoCard

/-- THE SECOND FORM's CARD OF 'tesseralaw23.TallyOrders'. -/
def tallyOrdersUptoCard : Claim7 := { stood := { row := tallyOrdersUptoRow, standIns := [], harness := (true, "6d730cead39fc840e133e75c89a53f44778734265af599c2a1eda44296d06e04"), looks := false }, kinds := [], alts := [], laidByText := true, laidKinds := [.data, .pinned], laidTests := true, laidLooks := .later }
def TallyOrdersUptoCardSaid : Prop := Claim7.holds Tryz.pinned (.plain (OpenSpec.upto tallyOrdersSpec)) tallyOrdersUptoCard

/-- THE SECOND FORM's CARD OF 'tesseralaw23.TallyKept'. -/
def tallyKeptUptoCard : Claim7 := { stood := { row := tallyKeptUptoRow, standIns := [], harness := (true, "6d730cead39fc840e133e75c89a53f44778734265af599c2a1eda44296d06e04"), looks := false }, kinds := [], alts := [], laidByText := true, laidKinds := [.data, .pinned], laidTests := true, laidLooks := .later }
def TallyKeptUptoCardSaid : Prop := Claim7.holds Tryz.pinned (.plain (OpenSpec.upto tallyKeptSpec)) tallyKeptUptoCard

/-- THE SECOND FORM's CARD OF 'tesseralaw23.TallyAsks'. -/
def tallyAsksUptoCard : Claim7 := { stood := { row := tallyAsksUptoRow, standIns := [], harness := (true, "6d730cead39fc840e133e75c89a53f44778734265af599c2a1eda44296d06e04"), looks := false }, kinds := [], alts := [], laidByText := true, laidKinds := [.data, .pinned], laidTests := true, laidLooks := .later }
def TallyAsksUptoCardSaid : Prop := Claim7.holds Tryz.pinned (.plain (OpenSpec.upto tallyAsksSpec)) tallyAsksUptoCard

/-- THE SECOND FORM's CARD OF 'tesseralaw23.TallySums'. -/
def tallySumsUptoCard : Claim7 := { stood := { row := tallySumsUptoRow, standIns := [], harness := (true, "6d730cead39fc840e133e75c89a53f44778734265af599c2a1eda44296d06e04"), looks := false }, kinds := [], alts := [], laidByText := true, laidKinds := [.data, .pinned], laidTests := true, laidLooks := .later }
def TallySumsUptoCardSaid : Prop := Claim7.holds Tryz.pinned (.plain (OpenSpec.upto tallySumsSpec)) tallySumsUptoCard

/-- THE SECOND FORM's CARD OF 'tesseralaw23.TallyNumbers'. -/
def tallyNumbersUptoCard : Claim7 := { stood := { row := tallyNumbersUptoRow, standIns := [], harness := (true, "6d730cead39fc840e133e75c89a53f44778734265af599c2a1eda44296d06e04"), looks := false }, kinds := [], alts := [], laidByText := true, laidKinds := [.data, .pinned], laidTests := true, laidLooks := .later }
def TallyNumbersUptoCardSaid : Prop := Claim7.holds Tryz.pinned (.plain (OpenSpec.upto tallyNumbersSpec)) tallyNumbersUptoCard
end Rows
end Go.Proofs.YtigpaaelggnffaaGreatDoor
