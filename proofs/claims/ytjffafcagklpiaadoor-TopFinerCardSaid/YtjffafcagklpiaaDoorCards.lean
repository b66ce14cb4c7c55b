/-
  DERIVED. GIVEN WITH THE SEED: THE CARDS: each row of YtjffafcagklpiaaDoorRows.lean that lists a variable, with what it lists TIED to the program's text (the seventh form; the later family's looks); each row that meets fmt, with fmt's text TOLD by the authors' own Lean function (tested against real Go, not proved from fmt's source: count such statements apart). THE CARD IS WHAT COUNTS. Prove the row's statement (the work); the ties are given (YtjffafcagklpiaaDoorTie.lean); close each card by the builder's one call (the guide's Derived/Test/ToyasCard.lean, 'card_holds'). Laid BY PROGRAM, IN A SANDBOX (cutbox-door.mjs). By AI agents, Wed Nov 11 2026. No macro, syntax, notation, axiom, sorry.
-/
import Derived.Test.YtjffafcagklpiaaDoorRows
import GoSem.ClaimSeven
namespace Go.Proofs.YtjffafcagklpiaaDoor
namespace Rows

/-- THE TIED CARD OF 'tesseratop.TopFiner'. -/
def topFinerCard : Claim7 := { stood := { row := topFinerRow, standIns := [], harness := (true, "e1792b06354f208bb97969a5d495d4ace8916fed1099e06e1ba615a84db041e6"), looks := false }, kinds := [], alts := [], laidByText := true, laidKinds := [.data, .pinned], laidTests := true, laidLooks := .later }
def TopFinerCardSaid : Prop := Claim7.holds Tryd.pinned (.plain (OpenSpec.ofChange topFinerSpec)) topFinerCard

/-- THE SECOND FORM's CARD OF 'tesseratop.TopFiner'. -/
def topFinerUptoCard : Claim7 := { stood := { row := topFinerUptoRow, standIns := [], harness := (true, "e1792b06354f208bb97969a5d495d4ace8916fed1099e06e1ba615a84db041e6"), looks := false }, kinds := [], alts := [], laidByText := true, laidKinds := [.data, .pinned], laidTests := true, laidLooks := .later }
def TopFinerUptoCardSaid : Prop := Claim7.holds Tryd.pinned (.plain (OpenSpec.upto topFinerSpec)) topFinerUptoCard
end Rows
end Go.Proofs.YtjffafcagklpiaaDoor
