/-
  NARROWER THAN 'FOR EVERY INPUT', by the rows' own cells (each row's printed sentence says how): TallyCounts: laid · TallyTurned: laid · TallyOrders: laid · TallyKept: laid · TallyAsks: laid · TallySums: laid · TallyNumbers: laid.
  DERIVED. THE GIVEN ROWS OF THIS SEAT. 7 by the template 'for every input the law returns true; each argument reads behind the call as it read before'; 0 by the template 'total and deterministic' (their statements: YtigpaaelggnffaaGreatDoorTotals.lean).
  GIVEN WITH THE SEED: the statements are not yours to turn. If you find one false, say at which input.
  Laid BY PROGRAM, IN A SANDBOX (cutbox-rows.mjs): the forced cells as the released guide's own fill.sh prints them over the translation da8b4bedd63d94d7… (all of the seat's roots in one cut). By AI agents, Wed Nov 11 2026. No macro, syntax, notation, axiom, sorry.
-/
import Derived.Test.YtigpaaelggnffaaGreatDoorChecked
import GoSem.PinnedTables
import GoSem.Claim
import GoSem.ClaimJoined
import GoSem.ClaimMapViews
import Derived.JoinedTies
import Derived.KernelRfl
namespace Go.Proofs.YtigpaaelggnffaaGreatDoor
/- THE CELL 'sum', in the pinned program and in every row, IS THE sha256 OF THE DUMP (.gsa) THAT YtigpaaelggnffaaGreatDoorProg.lean LOADS. Nothing in Lean hashes anything: it is a label: what it is worth is what the hold of that sum in a sandbox is worth. -/
noncomputable def Tryz.pinned : Pinned := { name := "ytigpaaelggnffaagreatdoor", sum := "da8b4bedd63d94d79d0fb5975564d621a30f5d97167d698017ccf4eb336e067a", checked := Tryz.checked }
namespace Rows
def none {H : Type} : Left H := { results := [], args := [] }

/- WHAT THE LISTED PACKAGE-LEVEL VARIABLES READ AS WHEN THE CALL BEGINS. Each datum BY PROGRAM (the guide's laid-datum.mjs) off the statement by which the dump's own 'gosem.cut.vars' lays the variable. In a bare row this is a premise. The card (YtigpaaelggnffaaGreatDoorCards.lean) ties it to the program's text. -/
def laid_unicode_utf8_acceptRanges {H : Type} : DataW H := .agg [.agg [.lit (.int .u8 128), .lit (.int .u8 191)], .agg [.lit (.int .u8 160), .lit (.int .u8 191)], .agg [.lit (.int .u8 128), .lit (.int .u8 159)], .agg [.lit (.int .u8 144), .lit (.int .u8 191)], .agg [.lit (.int .u8 128), .lit (.int .u8 143)], .agg [.lit (.int .u8 0), .lit (.int .u8 0)], .agg [.lit (.int .u8 0), .lit (.int .u8 0)], .agg [.lit (.int .u8 0), .lit (.int .u8 0)], .agg [.lit (.int .u8 0), .lit (.int .u8 0)], .agg [.lit (.int .u8 0), .lit (.int .u8 0)], .agg [.lit (.int .u8 0), .lit (.int .u8 0)], .agg [.lit (.int .u8 0), .lit (.int .u8 0)], .agg [.lit (.int .u8 0), .lit (.int .u8 0)], .agg [.lit (.int .u8 0), .lit (.int .u8 0)], .agg [.lit (.int .u8 0), .lit (.int .u8 0)], .agg [.lit (.int .u8 0), .lit (.int .u8 0)]]
/-- One of Go's own tables, pinned by name: the form's constant. -/
def laid_unicode_utf8_first : DataW Unit := Go.Pinned.utf8First

/-- 'tesseralaw23.TallyCounts': WHATEVER THE INPUT: true; the input reads as it did. -/
def tallyCountsSpec : ChangeSpec := { name := "tallyCounts", fn := fun _ => fun
  | [d1, d2, d3] => { results := [.lit (.bool true)], args := [d1, d2, d3] }
  | _ => none }
def tallyCountsRow : OpenClaim := { program := "ytigpaaelggnffaagreatdoor", sum := "da8b4bedd63d94d79d0fb5975564d621a30f5d97167d698017ccf4eb336e067a", func := "tessera/tesseralaw23.TallyCounts", spec := "tallyCounts", inPlace := ["internal/reflectlite.ValueOf", "internal/reflectlite.Swapper", "(internal/reflectlite.Value).Len"], unfollowed := true, recurses := true, named := ["unicode/utf8.first", "unicode/utf8.acceptRanges"], plainKeys := false, apart := false, laid := [("unicode/utf8.acceptRanges", laid_unicode_utf8_acceptRanges), ("unicode/utf8.first", laid_unicode_utf8_first)] }
def TallyCountsSaid : Prop := tallyCountsRow.holds Tryz.pinned (OpenSpec.ofChange tallyCountsSpec)

/-- ITS FALSE NEIGHBOUR: 'it returns false'. Refute it at one input. -/
def tallyCountsWrong : ChangeSpec := { name := "tallyCounts", fn := fun _ => fun
  | [d1, d2, d3] => { results := [.lit (.bool false)], args := [d1, d2, d3] }
  | _ => none }
def TallyCountsWrongFalsely : Prop := tallyCountsRow.holds Tryz.pinned (OpenSpec.ofChange tallyCountsWrong)

/-- 'tesseralaw23.TallyTurned': WHATEVER THE INPUT: true; the input reads as it did. -/
def tallyTurnedSpec : ChangeSpec := { name := "tallyTurned", fn := fun _ => fun
  | [d1, d2, d3, d4] => { results := [.lit (.bool true)], args := [d1, d2, d3, d4] }
  | _ => none }
def tallyTurnedRow : OpenClaim := { program := "ytigpaaelggnffaagreatdoor", sum := "da8b4bedd63d94d79d0fb5975564d621a30f5d97167d698017ccf4eb336e067a", func := "tessera/tesseralaw23.TallyTurned", spec := "tallyTurned", inPlace := ["internal/reflectlite.ValueOf", "internal/reflectlite.Swapper", "(internal/reflectlite.Value).Len"], unfollowed := true, recurses := true, named := ["unicode/utf8.first", "unicode/utf8.acceptRanges"], plainKeys := false, apart := false, laid := [("unicode/utf8.acceptRanges", laid_unicode_utf8_acceptRanges), ("unicode/utf8.first", laid_unicode_utf8_first)] }
def TallyTurnedSaid : Prop := tallyTurnedRow.holds Tryz.pinned (OpenSpec.ofChange tallyTurnedSpec)

/-- ITS FALSE NEIGHBOUR: 'it returns false'. Refute it at one input. -/
def tallyTurnedWrong : ChangeSpec := { name := "tallyTurned", fn := fun _ => fun
  | [d1, d2, d3, d4] => { results := [.lit (.bool false)], args := [d1, d2, d3, d4] }
  | _ => none }
def TallyTurnedWrongFalsely : Prop := tallyTurnedRow.holds Tryz.pinned (OpenSpec.ofChange tallyTurnedWrong)

/-- 'tesseralaw23.TallyOrders': WHATEVER THE INPUT: true; the input reads as it did. -/
def tallyOrdersSpec : ChangeSpec := { name := "tallyOrders", fn := fun _ => fun
  | [d1, d2] => { results := [.lit (.bool true)], args := [d1, d2] }
  | _ => none }
def tallyOrdersRow : OpenClaim := { program := "ytigpaaelggnffaagreatdoor", sum := "da8b4bedd63d94d79d0fb5975564d621a30f5d97167d698017ccf4eb336e067a", func := "tessera/tesseralaw23.TallyOrders", spec := "tallyOrders", inPlace := ["internal/reflectlite.ValueOf", "internal/reflectlite.Swapper", "(internal/reflectlite.Value).Len"], unfollowed := true, recurses := true, named := ["unicode/utf8.first", "unicode/utf8.acceptRanges"], plainKeys := false, apart := false, laid := [("unicode/utf8.acceptRanges", laid_unicode_utf8_acceptRanges), ("unicode/utf8.first", laid_unicode_utf8_first)] }
def TallyOrdersSaid : Prop := tallyOrdersRow.holds Tryz.pinned (OpenSpec.ofChange tallyOrdersSpec)

/-- ITS FALSE NEIGHBOUR: 'it returns false'. Refute it at one input. -/
def tallyOrdersWrong : ChangeSpec := { name := "tallyOrders", fn := fun _ => fun
  | [d1, d2] => { results := [.lit (.bool false)], args := [d1, d2] }
  | _ => none }
def TallyOrdersWrongFalsely : Prop := tallyOrdersRow.holds Tryz.pinned (OpenSpec.ofChange tallyOrdersWrong)

/-- 'tesseralaw23.TallyKept': WHATEVER THE INPUT: true; the input reads as it did. -/
def tallyKeptSpec : ChangeSpec := { name := "tallyKept", fn := fun _ => fun
  | [d1, d2, d3] => { results := [.lit (.bool true)], args := [d1, d2, d3] }
  | _ => none }
def tallyKeptRow : OpenClaim := { program := "ytigpaaelggnffaagreatdoor", sum := "da8b4bedd63d94d79d0fb5975564d621a30f5d97167d698017ccf4eb336e067a", func := "tessera/tesseralaw23.TallyKept", spec := "tallyKept", inPlace := ["internal/reflectlite.ValueOf", "internal/reflectlite.Swapper", "(internal/reflectlite.Value).Len"], unfollowed := true, recurses := true, named := ["unicode/utf8.first", "unicode/utf8.acceptRanges"], plainKeys := false, apart := false, laid := [("unicode/utf8.acceptRanges", laid_unicode_utf8_acceptRanges), ("unicode/utf8.first", laid_unicode_utf8_first)] }
def TallyKeptSaid : Prop := tallyKeptRow.holds Tryz.pinned (OpenSpec.ofChange tallyKeptSpec)

/-- ITS FALSE NEIGHBOUR: 'it returns false'. Refute it at one input. -/
def tallyKeptWrong : ChangeSpec := { name := "tallyKept", fn := fun _ => fun
  | [d1, d2, d3] => { results := [.lit (.bool false)], args := [d1, d2, d3] }
  | _ => none }
def TallyKeptWrongFalsely : Prop := tallyKeptRow.holds Tryz.pinned (OpenSpec.ofChange tallyKeptWrong)

/-- 'tesseralaw23.TallyAsks': WHATEVER THE INPUT: true; the input reads as it did. -/
def tallyAsksSpec : ChangeSpec := { name := "tallyAsks", fn := fun _ => fun
  | [d1, d2] => { results := [.lit (.bool true)], args := [d1, d2] }
  | _ => none }
def tallyAsksRow : OpenClaim := { program := "ytigpaaelggnffaagreatdoor", sum := "da8b4bedd63d94d79d0fb5975564d621a30f5d97167d698017ccf4eb336e067a", func := "tessera/tesseralaw23.TallyAsks", spec := "tallyAsks", inPlace := ["internal/reflectlite.ValueOf", "internal/reflectlite.Swapper", "(internal/reflectlite.Value).Len"], unfollowed := true, recurses := true, named := ["unicode/utf8.first", "unicode/utf8.acceptRanges"], plainKeys := false, apart := false, laid := [("unicode/utf8.acceptRanges", laid_unicode_utf8_acceptRanges), ("unicode/utf8.first", laid_unicode_utf8_first)] }
def TallyAsksSaid : Prop := tallyAsksRow.holds Tryz.pinned (OpenSpec.ofChange tallyAsksSpec)

/-- ITS FALSE NEIGHBOUR: 'it returns false'. Refute it at one input. -/
def tallyAsksWrong : ChangeSpec := { name := "tallyAsks", fn := fun _ => fun
  | [d1, d2] => { results := [.lit (.bool false)], args := [d1, d2] }
  | _ => none }
def TallyAsksWrongFalsely : Prop := tallyAsksRow.holds Tryz.pinned (OpenSpec.ofChange tallyAsksWrong)

/-- 'tesseralaw23.TallySums': WHATEVER THE INPUT: true; the input reads as it did. -/
def tallySumsSpec : ChangeSpec := { name := "tallySums", fn := fun _ => fun
  | [d1, d2, d3] => { results := [.lit (.bool true)], args := [d1, d2, d3] }
  | _ => none }
def tallySumsRow : OpenClaim := { program := "ytigpaaelggnffaagreatdoor", sum := "da8b4bedd63d94d79d0fb5975564d621a30f5d97167d698017ccf4eb336e067a", func := "tessera/tesseralaw23.TallySums", spec := "tallySums", inPlace := ["internal/reflectlite.ValueOf", "internal/reflectlite.Swapper", "(internal/reflectlite.Value).Len"], unfollowed := true, recurses := true, named := ["unicode/utf8.first", "unicode/utf8.acceptRanges"], plainKeys := false, apart := false, laid := [("unicode/utf8.acceptRanges", laid_unicode_utf8_acceptRanges), ("unicode/utf8.first", laid_unicode_utf8_first)] }
def TallySumsSaid : Prop := tallySumsRow.holds Tryz.pinned (OpenSpec.ofChange tallySumsSpec)

/-- ITS FALSE NEIGHBOUR: 'it returns false'. Refute it at one input. -/
def tallySumsWrong : ChangeSpec := { name := "tallySums", fn := fun _ => fun
  | [d1, d2, d3] => { results := [.lit (.bool false)], args := [d1, d2, d3] }
  | _ => none }
def TallySumsWrongFalsely : Prop := tallySumsRow.holds Tryz.pinned (OpenSpec.ofChange tallySumsWrong)

/-- 'tesseralaw23.TallyNumbers': WHATEVER THE INPUT: true; the input reads as it did. -/
def tallyNumbersSpec : ChangeSpec := { name := "tallyNumbers", fn := fun _ => fun
  | [] => { results := [.lit (.bool true)], args := [] }
  | _ => none }
def tallyNumbersRow : OpenClaim := { program := "ytigpaaelggnffaagreatdoor", sum := "da8b4bedd63d94d79d0fb5975564d621a30f5d97167d698017ccf4eb336e067a", func := "tessera/tesseralaw23.TallyNumbers", spec := "tallyNumbers", inPlace := ["internal/reflectlite.ValueOf", "internal/reflectlite.Swapper", "(internal/reflectlite.Value).Len"], unfollowed := true, recurses := true, named := ["unicode/utf8.first", "unicode/utf8.acceptRanges"], plainKeys := false, apart := false, laid := [("unicode/utf8.acceptRanges", laid_unicode_utf8_acceptRanges), ("unicode/utf8.first", laid_unicode_utf8_first)] }
def TallyNumbersSaid : Prop := tallyNumbersRow.holds Tryz.pinned (OpenSpec.ofChange tallyNumbersSpec)

/-- ITS FALSE NEIGHBOUR: 'it returns false'. Refute it at one input. -/
def tallyNumbersWrong : ChangeSpec := { name := "tallyNumbers", fn := fun _ => fun
  | [] => { results := [.lit (.bool false)], args := [] }
  | _ => none }
def TallyNumbersWrongFalsely : Prop := tallyNumbersRow.holds Tryz.pinned (OpenSpec.ofChange tallyNumbersWrong)

/- THE SECOND FORM. 'bulk': how many values and letters a reading holds, each counted each time it is reached (what is shared counts as often as it is met; a slice's spare places count too). A statement '..UptoSaid' is the law's where the arguments, and the package variables that the reading takes, are together of bulk at most 1048576: NARROWER than '..Said'. Prove '..Said' where nothing that the law and all that it calls make is longer than what came in: it says more and counts as full. Else prove '..UptoSaid'. A law counts once. -/
mutual
def uptoBulk {H : Type} : DataW H → Nat
  | .lit (.string bytes) => bytes.length + 1
  | .lit _ => 1
  | .nil => 1
  | .ptr d => uptoBulk d + 1
  | .slice elems spare => uptoBulkAll elems + uptoBulkAll spare + 1
  | .agg parts => uptoBulkAll parts + 1
  | .iface _ d => uptoBulk d + 1
  | .map entries => uptoBulkEntries entries + 1
  | .held _ => 1
def uptoBulkAll {H : Type} : List (DataW H) → Nat
  | [] => 0
  | d :: r => uptoBulk d + uptoBulkAll r
def uptoBulkEntries {H : Type} : List (Lit × DataW H) → Nat
  | [] => 0
  | x :: r => uptoBulkEntry x + uptoBulkEntries r
def uptoBulkEntry {H : Type} : Lit × DataW H → Nat
  | (.string bytes, d) => bytes.length + uptoBulk d + 1
  | (_, d) => uptoBulk d + 1
 end
def uptoSmall : (H : Type) → List (DataW H) → Bool := fun _ ds => decide (uptoBulkAll ds ≤ 1048576)
def OpenSpec.upto (s : _root_.Go.ChangeSpec) : _root_.Go.OpenSpec := { _root_.Go.OpenSpec.ofChange s with cond := some uptoSmall }

/-- 'tesseralaw23.TallyCounts', WHERE WHAT IT READS IS OF BULK AT MOST 1048576: true; the input reads as it did. -/
def tallyCountsUptoRow : OpenClaim := { program := "ytigpaaelggnffaagreatdoor", sum := "da8b4bedd63d94d79d0fb5975564d621a30f5d97167d698017ccf4eb336e067a", func := "tessera/tesseralaw23.TallyCounts", spec := "tallyCounts", inPlace := ["internal/reflectlite.ValueOf", "internal/reflectlite.Swapper", "(internal/reflectlite.Value).Len"], unfollowed := true, recurses := true, named := ["unicode/utf8.first", "unicode/utf8.acceptRanges"], plainKeys := false, apart := false, laid := [("unicode/utf8.acceptRanges", laid_unicode_utf8_acceptRanges), ("unicode/utf8.first", laid_unicode_utf8_first)], narrowed := true }
def TallyCountsUptoSaid : Prop := tallyCountsUptoRow.holds Tryz.pinned (OpenSpec.upto tallyCountsSpec)

/-- 'tesseralaw23.TallyTurned', WHERE WHAT IT READS IS OF BULK AT MOST 1048576: true; the input reads as it did. -/
def tallyTurnedUptoRow : OpenClaim := { program := "ytigpaaelggnffaagreatdoor", sum := "da8b4bedd63d94d79d0fb5975564d621a30f5d97167d698017ccf4eb336e067a", func := "tessera/tesseralaw23.TallyTurned", spec := "tallyTurned", inPlace := ["internal/reflectlite.ValueOf", "internal/reflectlite.Swapper", "(internal/reflectlite.Value).Len"], unfollowed := true, recurses := true, named := ["unicode/utf8.first", "unicode/utf8.acceptRanges"], plainKeys := false, apart := false, laid := [("unicode/utf8.acceptRanges", laid_unicode_utf8_acceptRanges), ("unicode/utf8.first", laid_unicode_utf8_first)], narrowed := true }
def TallyTurnedUptoSaid : Prop := tallyTurnedUptoRow.holds Tryz.pinned (OpenSpec.upto tallyTurnedSpec)

/-- 'tesseralaw23.TallyOrders', WHERE WHAT IT READS IS OF BULK AT MOST 1048576: true; the input reads as it did. -/
def tallyOrdersUptoRow : OpenClaim := { program := "ytigpaaelggnffaagreatdoor", sum := "da8b4bedd63d94d79d0fb5975564d621a30f5d97167d698017ccf4eb336e067a", func := "tessera/tesseralaw23.TallyOrders", spec := "tallyOrders", inPlace := ["internal/reflectlite.ValueOf", "internal/reflectlite.Swapper", "(internal/reflectlite.Value).Len"], unfollowed := true, recurses := true, named := ["unicode/utf8.first", "unicode/utf8.acceptRanges"], plainKeys := false, apart := false, laid := [("unicode/utf8.acceptRanges", laid_unicode_utf8_acceptRanges), ("unicode/utf8.first", laid_unicode_utf8_first)], narrowed := true }
def TallyOrdersUptoSaid : Prop := tallyOrdersUptoRow.holds Tryz.pinned (OpenSpec.upto tallyOrdersSpec)

/-- 'tesseralaw23.TallyKept', WHERE WHAT IT READS IS OF BULK AT MOST 1048576: true; the input reads as it did. -/
def tallyKeptUptoRow : OpenClaim := { program := "ytigpaaelggnffaagreatdoor", sum := "da8b4bedd63d94d79d0fb5975564d621a30f5d97167d698017ccf4eb336e067a", func := "tessera/tesseralaw23.TallyKept", spec := "tallyKept", inPlace := ["internal/reflectlite.ValueOf", "internal/reflectlite.Swapper", "(internal/reflectlite.Value).Len"], unfollowed := true, recurses := true, named := ["unicode/utf8.first", "unicode/utf8.acceptRanges"], plainKeys := false, apart := false, laid := [("unicode/utf8.acceptRanges", laid_unicode_utf8_acceptRanges), ("unicode/utf8.first", laid_unicode_utf8_first)], narrowed := true }
def TallyKeptUptoSaid : Prop := tallyKeptUptoRow.holds Tryz.pinned (OpenSpec.upto tallyKeptSpec)

/-- 'tesseralaw23.TallyAsks', WHERE WHAT IT READS IS OF BULK AT MOST 1048576: true; the input reads as it did. -/
def tallyAsksUptoRow : OpenClaim := { program := "ytigpaaelggnffaagreatdoor", sum := "da8b4bedd63d94d79d0fb5975564d621a30f5d97167d698017ccf4eb336e067a", func := "tessera/tesseralaw23.TallyAsks", spec := "tallyAsks", inPlace := ["internal/reflectlite.ValueOf", "internal/reflectlite.Swapper", "(internal/reflectlite.Value).Len"], unfollowed := true, recurses := true, named := ["unicode/utf8.first", "unicode/utf8.acceptRanges"], plainKeys := false, apart := false, laid := [("unicode/utf8.acceptRanges", laid_unicode_utf8_acceptRanges), ("unicode/utf8.first", laid_unicode_utf8_first)], narrowed := true }
def TallyAsksUptoSaid : Prop := tallyAsksUptoRow.holds Tryz.pinned (OpenSpec.upto tallyAsksSpec)

/-- 'tesseralaw23.TallySums', WHERE WHAT IT READS IS OF BULK AT MOST 1048576: true; the input reads as it did. -/
def tallySumsUptoRow : OpenClaim := { program := "ytigpaaelggnffaagreatdoor", sum := "da8b4bedd63d94d79d0fb5975564d621a30f5d97167d698017ccf4eb336e067a", func := "tessera/tesseralaw23.TallySums", spec := "tallySums", inPlace := ["internal/reflectlite.ValueOf", "internal/reflectlite.Swapper", "(internal/reflectlite.Value).Len"], unfollowed := true, recurses := true, named := ["unicode/utf8.first", "unicode/utf8.acceptRanges"], plainKeys := false, apart := false, laid := [("unicode/utf8.acceptRanges", laid_unicode_utf8_acceptRanges), ("unicode/utf8.first", laid_unicode_utf8_first)], narrowed := true }
def TallySumsUptoSaid : Prop := tallySumsUptoRow.holds Tryz.pinned (OpenSpec.upto tallySumsSpec)

/-- 'tesseralaw23.TallyNumbers', WHERE WHAT IT READS IS OF BULK AT MOST 1048576: true; the input reads as it did. -/
def tallyNumbersUptoRow : OpenClaim := { program := "ytigpaaelggnffaagreatdoor", sum := "da8b4bedd63d94d79d0fb5975564d621a30f5d97167d698017ccf4eb336e067a", func := "tessera/tesseralaw23.TallyNumbers", spec := "tallyNumbers", inPlace := ["internal/reflectlite.ValueOf", "internal/reflectlite.Swapper", "(internal/reflectlite.Value).Len"], unfollowed := true, recurses := true, named := ["unicode/utf8.first", "unicode/utf8.acceptRanges"], plainKeys := false, apart := false, laid := [("unicode/utf8.acceptRanges", laid_unicode_utf8_acceptRanges), ("unicode/utf8.first", laid_unicode_utf8_first)], narrowed := true }
def TallyNumbersUptoSaid : Prop := tallyNumbersUptoRow.holds Tryz.pinned (OpenSpec.upto tallyNumbersSpec)

end Rows
end Go.Proofs.YtigpaaelggnffaaGreatDoor
