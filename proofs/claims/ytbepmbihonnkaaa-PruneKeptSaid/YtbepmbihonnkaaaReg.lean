/- Drawn regions by the print's words (WLast): small words of mine beside them. -/
import Derived.Test.YtbepmbihonnkaaaWLast
import Derived.Test.YtbepmbihonnkaaaLib2
namespace Go.Proofs.Ytbepmbihonnkaaa.Sl
/-- n bits of a number. -/
def ls (n m : Nat) : Array Bool := ((List.range n).map fun i => m.testBit i).toArray
theorem cell_alloc {w : World} {p : Addr} {v : Value} {o : Obj} (h : w.cell? p = some v) : (w.alloc o).cell? p = some v := (World.cell?_alloc_lt _ _ _ (World.block_lt_of_cell? _ _ h)).trans h
end Go.Proofs.Ytbepmbihonnkaaa.Sl
