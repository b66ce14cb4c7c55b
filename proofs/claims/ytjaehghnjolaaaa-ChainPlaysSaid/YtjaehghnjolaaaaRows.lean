/-
  No cell of these rows narrows 'for every input' (looked for: loops, veiled, ifaces, maps, wideKeys, modest, calm, conditions, laid).
  DERIVED. THE GIVEN ROWS OF THIS SEAT. 6 by the template 'for every input the law returns true; each argument reads behind the call as it read before'; 0 by the template 'total and deterministic' (their statements: YtjaehghnjolaaaaTotals.lean).
  GIVEN WITH THE SEED: the statements are not yours to turn. If you find one false, say at which input.
  Laid BY PROGRAM, IN A SANDBOX (cutbox-rows.mjs): the forced cells as the released guide's own fill.sh prints them over the translation 90576e83d504b327… (all of the seat's roots in one cut). By AI agents, Wed Nov 11 2026. No macro, syntax, notation, axiom, sorry.
-/
import Derived.Test.YtjaehghnjolaaaaChecked
import GoSem.Claim
import GoSem.ClaimJoined
import GoSem.ClaimMapViews
import Derived.JoinedTies
import Derived.KernelRfl
namespace Go.Proofs.Ytjaehghnjolaaaa
/- THE CELL 'sum', in the pinned program and in every row, IS THE sha256 OF THE DUMP (.gsa) THAT YtjaehghnjolaaaaProg.lean LOADS. Nothing in Lean hashes anything: it is a label: what it is worth is what the hold of that sum in a sandbox is worth. -/
noncomputable def Try.pinned : Pinned := { name := "ytjaehghnjolaaaa", sum := "90576e83d504b327f5d77200651843c9737ef9d735e8bb8b9ed11d48ba40fefe", checked := Try.checked }
namespace Rows
def none {H : Type} : Left H := { results := [], args := [] }

/-- 'tesseralaw9.ChainNumbers': WHATEVER THE INPUT: true; the input reads as it did. -/
def chainNumbersSpec : ChangeSpec := { name := "chainNumbers", fn := fun _ => fun
  | [] => { results := [.lit (.bool true)], args := [] }
  | _ => none }
def chainNumbersRow : OpenClaim := { program := "ytjaehghnjolaaaa", sum := "90576e83d504b327f5d77200651843c9737ef9d735e8bb8b9ed11d48ba40fefe", func := "tessera/tesseralaw9.ChainNumbers", spec := "chainNumbers", apart := false }
def ChainNumbersSaid : Prop := chainNumbersRow.holds Try.pinned (OpenSpec.ofChange chainNumbersSpec)

/-- ITS FALSE NEIGHBOUR: 'it returns false'. Refute it at one input. -/
def chainNumbersWrong : ChangeSpec := { name := "chainNumbers", fn := fun _ => fun
  | [] => { results := [.lit (.bool false)], args := [] }
  | _ => none }
def ChainNumbersWrongFalsely : Prop := chainNumbersRow.holds Try.pinned (OpenSpec.ofChange chainNumbersWrong)

/-- 'tesseralaw9.ChainBoth': WHATEVER THE INPUT: true; the input reads as it did. -/
def chainBothSpec : ChangeSpec := { name := "chainBoth", fn := fun _ => fun
  | [d1, d2] => { results := [.lit (.bool true)], args := [d1, d2] }
  | _ => none }
def chainBothRow : OpenClaim := { program := "ytjaehghnjolaaaa", sum := "90576e83d504b327f5d77200651843c9737ef9d735e8bb8b9ed11d48ba40fefe", func := "tessera/tesseralaw9.ChainBoth", spec := "chainBoth", apart := false }
def ChainBothSaid : Prop := chainBothRow.holds Try.pinned (OpenSpec.ofChange chainBothSpec)

/-- ITS FALSE NEIGHBOUR: 'it returns false'. Refute it at one input. -/
def chainBothWrong : ChangeSpec := { name := "chainBoth", fn := fun _ => fun
  | [d1, d2] => { results := [.lit (.bool false)], args := [d1, d2] }
  | _ => none }
def ChainBothWrongFalsely : Prop := chainBothRow.holds Try.pinned (OpenSpec.ofChange chainBothWrong)

/-- 'tesseralaw9.ChainPlays': WHATEVER THE INPUT: true; the input reads as it did. -/
def chainPlaysSpec : ChangeSpec := { name := "chainPlays", fn := fun _ => fun
  | [d1, d2, d3] => { results := [.lit (.bool true)], args := [d1, d2, d3] }
  | _ => none }
def chainPlaysRow : OpenClaim := { program := "ytjaehghnjolaaaa", sum := "90576e83d504b327f5d77200651843c9737ef9d735e8bb8b9ed11d48ba40fefe", func := "tessera/tesseralaw9.ChainPlays", spec := "chainPlays", unfollowed := true, recurses := true, apart := false }
def ChainPlaysSaid : Prop := chainPlaysRow.holds Try.pinned (OpenSpec.ofChange chainPlaysSpec)

/-- ITS FALSE NEIGHBOUR: 'it returns false'. Refute it at one input. -/
def chainPlaysWrong : ChangeSpec := { name := "chainPlays", fn := fun _ => fun
  | [d1, d2, d3] => { results := [.lit (.bool false)], args := [d1, d2, d3] }
  | _ => none }
def ChainPlaysWrongFalsely : Prop := chainPlaysRow.holds Try.pinned (OpenSpec.ofChange chainPlaysWrong)

/-- 'tesseralaw8.HeapNumbers': WHATEVER THE INPUT: true; the input reads as it did. -/
def heapNumbersSpec : ChangeSpec := { name := "heapNumbers", fn := fun _ => fun
  | [] => { results := [.lit (.bool true)], args := [] }
  | _ => none }
def heapNumbersRow : OpenClaim := { program := "ytjaehghnjolaaaa", sum := "90576e83d504b327f5d77200651843c9737ef9d735e8bb8b9ed11d48ba40fefe", func := "tessera/tesseralaw8.HeapNumbers", spec := "heapNumbers", unfollowed := true, recurses := true, apart := false }
def HeapNumbersSaid : Prop := heapNumbersRow.holds Try.pinned (OpenSpec.ofChange heapNumbersSpec)

/-- ITS FALSE NEIGHBOUR: 'it returns false'. Refute it at one input. -/
def heapNumbersWrong : ChangeSpec := { name := "heapNumbers", fn := fun _ => fun
  | [] => { results := [.lit (.bool false)], args := [] }
  | _ => none }
def HeapNumbersWrongFalsely : Prop := heapNumbersRow.holds Try.pinned (OpenSpec.ofChange heapNumbersWrong)

/-- 'tesseralaw8.HeapPlays': WHATEVER THE INPUT: true; the input reads as it did. -/
def heapPlaysSpec : ChangeSpec := { name := "heapPlays", fn := fun _ => fun
  | [d1, d2] => { results := [.lit (.bool true)], args := [d1, d2] }
  | _ => none }
def heapPlaysRow : OpenClaim := { program := "ytjaehghnjolaaaa", sum := "90576e83d504b327f5d77200651843c9737ef9d735e8bb8b9ed11d48ba40fefe", func := "tessera/tesseralaw8.HeapPlays", spec := "heapPlays", unfollowed := true, recurses := true, apart := false }
def HeapPlaysSaid : Prop := heapPlaysRow.holds Try.pinned (OpenSpec.ofChange heapPlaysSpec)

/-- ITS FALSE NEIGHBOUR: 'it returns false'. Refute it at one input. -/
def heapPlaysWrong : ChangeSpec := { name := "heapPlays", fn := fun _ => fun
  | [d1, d2] => { results := [.lit (.bool false)], args := [d1, d2] }
  | _ => none }
def HeapPlaysWrongFalsely : Prop := heapPlaysRow.holds Try.pinned (OpenSpec.ofChange heapPlaysWrong)

/-- 'tesseralaw8.HeapSorts': WHATEVER THE INPUT: true; the input reads as it did. -/
def heapSortsSpec : ChangeSpec := { name := "heapSorts", fn := fun _ => fun
  | [d] => { results := [.lit (.bool true)], args := [d] }
  | _ => none }
def heapSortsRow : OpenClaim := { program := "ytjaehghnjolaaaa", sum := "90576e83d504b327f5d77200651843c9737ef9d735e8bb8b9ed11d48ba40fefe", func := "tessera/tesseralaw8.HeapSorts", spec := "heapSorts", unfollowed := true, recurses := true, apart := false }
def HeapSortsSaid : Prop := heapSortsRow.holds Try.pinned (OpenSpec.ofChange heapSortsSpec)

/-- ITS FALSE NEIGHBOUR: 'it returns false'. Refute it at one input. -/
def heapSortsWrong : ChangeSpec := { name := "heapSorts", fn := fun _ => fun
  | [d] => { results := [.lit (.bool false)], args := [d] }
  | _ => none }
def HeapSortsWrongFalsely : Prop := heapSortsRow.holds Try.pinned (OpenSpec.ofChange heapSortsWrong)

/- THE SECOND FORM. 'bulk': how many values and letters a reading holds, each counted each time it is reached (what is shared counts as often as it is met; a slice's spare places count too). A statement '..UptoSaid' is the law's where the arguments, and the package variables that the reading takes, are together of bulk at most 1048576: NARROWER than '..Said'. Prove '..Said' where nothing that the law and all that it calls make is longer than what came in: it says more and counts as full. Else prove '..UptoSaid'. A law counts once. -/
mutual
def uptoBulk {H : Type} : DataW H → Nat
  | .lit (.string bytes) => bytes.length + 1
  | .lit _ => 1
  | .nil => 1
  | .ptr d => uptoBulk d + 1
  | .slice elems spare => uptoBulkAll elems + uptoBulkAll spare + 1
  | .agg parts => uptoBulkAll parts + 1
  | .iface _ d => uptoBulk d + 1
  | .map entries => uptoBulkEntries entries + 1
  | .held _ => 1
def uptoBulkAll {H : Type} : List (DataW H) → Nat
  | [] => 0
  | d :: r => uptoBulk d + uptoBulkAll r
def uptoBulkEntries {H : Type} : List (Lit × DataW H) → Nat
  | [] => 0
  | x :: r => uptoBulkEntry x + uptoBulkEntries r
def uptoBulkEntry {H : Type} : Lit × DataW H → Nat
  | (.string bytes, d) => bytes.length + uptoBulk d + 1
  | (_, d) => uptoBulk d + 1
 end
def uptoSmall : (H : Type) → List (DataW H) → Bool := fun _ ds => decide (uptoBulkAll ds ≤ 1048576)
def OpenSpec.upto (s : _root_.Go.ChangeSpec) : _root_.Go.OpenSpec := { _root_.Go.OpenSpec.ofChange s with cond := some uptoSmall }

/-- 'tesseralaw9.ChainNumbers', WHERE WHAT IT READS IS OF BULK AT MOST 1048576: true; the input reads as it did. -/
def chainNumbersUptoRow : OpenClaim := { program := "ytjaehghnjolaaaa", sum := "90576e83d504b327f5d77200651843c9737ef9d735e8bb8b9ed11d48ba40fefe", func := "tessera/tesseralaw9.ChainNumbers", spec := "chainNumbers", apart := false, narrowed := true }
def ChainNumbersUptoSaid : Prop := chainNumbersUptoRow.holds Try.pinned (OpenSpec.upto chainNumbersSpec)

/-- 'tesseralaw9.ChainBoth', WHERE WHAT IT READS IS OF BULK AT MOST 1048576: true; the input reads as it did. -/
def chainBothUptoRow : OpenClaim := { program := "ytjaehghnjolaaaa", sum := "90576e83d504b327f5d77200651843c9737ef9d735e8bb8b9ed11d48ba40fefe", func := "tessera/tesseralaw9.ChainBoth", spec := "chainBoth", apart := false, narrowed := true }
def ChainBothUptoSaid : Prop := chainBothUptoRow.holds Try.pinned (OpenSpec.upto chainBothSpec)

/-- 'tesseralaw9.ChainPlays', WHERE WHAT IT READS IS OF BULK AT MOST 1048576: true; the input reads as it did. -/
def chainPlaysUptoRow : OpenClaim := { program := "ytjaehghnjolaaaa", sum := "90576e83d504b327f5d77200651843c9737ef9d735e8bb8b9ed11d48ba40fefe", func := "tessera/tesseralaw9.ChainPlays", spec := "chainPlays", unfollowed := true, recurses := true, apart := false, narrowed := true }
def ChainPlaysUptoSaid : Prop := chainPlaysUptoRow.holds Try.pinned (OpenSpec.upto chainPlaysSpec)

/-- 'tesseralaw8.HeapNumbers', WHERE WHAT IT READS IS OF BULK AT MOST 1048576: true; the input reads as it did. -/
def heapNumbersUptoRow : OpenClaim := { program := "ytjaehghnjolaaaa", sum := "90576e83d504b327f5d77200651843c9737ef9d735e8bb8b9ed11d48ba40fefe", func := "tessera/tesseralaw8.HeapNumbers", spec := "heapNumbers", unfollowed := true, recurses := true, apart := false, narrowed := true }
def HeapNumbersUptoSaid : Prop := heapNumbersUptoRow.holds Try.pinned (OpenSpec.upto heapNumbersSpec)

/-- 'tesseralaw8.HeapPlays', WHERE WHAT IT READS IS OF BULK AT MOST 1048576: true; the input reads as it did. -/
def heapPlaysUptoRow : OpenClaim := { program := "ytjaehghnjolaaaa", sum := "90576e83d504b327f5d77200651843c9737ef9d735e8bb8b9ed11d48ba40fefe", func := "tessera/tesseralaw8.HeapPlays", spec := "heapPlays", unfollowed := true, recurses := true, apart := false, narrowed := true }
def HeapPlaysUptoSaid : Prop := heapPlaysUptoRow.holds Try.pinned (OpenSpec.upto heapPlaysSpec)

/-- 'tesseralaw8.HeapSorts', WHERE WHAT IT READS IS OF BULK AT MOST 1048576: true; the input reads as it did. -/
def heapSortsUptoRow : OpenClaim := { program := "ytjaehghnjolaaaa", sum := "90576e83d504b327f5d77200651843c9737ef9d735e8bb8b9ed11d48ba40fefe", func := "tessera/tesseralaw8.HeapSorts", spec := "heapSorts", unfollowed := true, recurses := true, apart := false, narrowed := true }
def HeapSortsUptoSaid : Prop := heapSortsUptoRow.holds Try.pinned (OpenSpec.upto heapSortsSpec)

end Rows
end Go.Proofs.Ytjaehghnjolaaaa
