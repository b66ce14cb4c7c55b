/- The kit's contracts of library functions, laid at this program's numbers. -/
import Derived.Shelf.Strings.Prefix
import Derived.Shelf.Unicode.DecodeAny
import Derived.Test.YtigpaaelggnffaaGreatDoorProg
namespace Go.Proofs
open Go.Shelf
def Tryz.lays99_ren : Go.Shelf.Ren := ⟨fun | 99 => 124 | 206 => 149 | n => n, fun | 9 => 9 | 4 => 4 | 3 => 3 | n => n, fun | n => n⟩
theorem Tryz.lays99 : Go.Proofs.Lays.n99 Tryz.prog Tryz.lays99_ren := {
  mixed := by kernel_rfl
  f99 := Tryz.func124.trans (congrArg some (by kernel_rfl))
  f206 := Tryz.func149.trans (congrArg some (by kernel_rfl))
  t3 := Tryz.underlying3
  a3 := Tryz.isAgg3
  z3 := Tryz.sizeOf3
  v3 := Tryz.zeroValue3
  t4 := Tryz.underlying4
  a4 := Tryz.isAgg4
  z4 := Tryz.sizeOf4
  v4 := Tryz.zeroValue4
  t9 := Tryz.underlying9
  a9 := Tryz.isAgg9
  z9 := Tryz.sizeOf9
  v9 := Tryz.zeroValue9 }
open Go.RowKit Go.Lib in
theorem Tryz.strings_HasPrefix (s p : ByteArray) (w : World) :
    Calls Tryz.prog 124 #[.string s, .string p] w fun e w' => e = .returned (.bool (Lib.hasPrefix s.data.toList p.data.toList)) ∧ w' = w := Any.strings_HasPrefix Tryz.lays99 s p w
def Tryz.lays197_ren : Go.Shelf.Ren := ⟨fun | 197 => 161 | 260 => 163 | n => n, fun | 9 => 9 | 21 => 21 | 3 => 3 | 4 => 4 | 5 => 5 | 105 => 254 | 119 => 257 | 0 => 0 | 46 => 214 | 139 => 260 | 138 => 259 | n => n, fun | 3 => 0 | 4 => 1 | n => n⟩
theorem Tryz.lays197 : Go.Proofs.Lays.n197 Tryz.prog Tryz.lays197_ren := {
  mixed := by kernel_rfl
  f197 := Tryz.func161.trans (congrArg some (by kernel_rfl))
  f260 := Tryz.func163.trans (congrArg some (by kernel_rfl))
  t0 := Tryz.underlying0
  a0 := Tryz.isAgg0
  z0 := Tryz.sizeOf0
  v0 := Tryz.zeroValue0
  t3 := Tryz.underlying3
  a3 := Tryz.isAgg3
  z3 := Tryz.sizeOf3
  v3 := Tryz.zeroValue3
  t4 := Tryz.underlying4
  a4 := Tryz.isAgg4
  z4 := Tryz.sizeOf4
  v4 := Tryz.zeroValue4
  t5 := Tryz.underlying5
  a5 := Tryz.isAgg5
  z5 := Tryz.sizeOf5
  v5 := Tryz.zeroValue5
  t9 := Tryz.underlying9
  a9 := Tryz.isAgg9
  z9 := Tryz.sizeOf9
  v9 := Tryz.zeroValue9
  t21 := Tryz.underlying21
  a21 := Tryz.isAgg21
  z21 := Tryz.sizeOf21
  v21 := Tryz.zeroValue21
  t46 := Tryz.underlying214
  a46 := Tryz.isAgg214
  z46 := Tryz.sizeOf214
  v46 := Tryz.zeroValue214
  t105 := Tryz.underlying254
  a105 := Tryz.isAgg254
  z105 := Tryz.sizeOf254
  v105 := Tryz.zeroValue254
  t119 := Tryz.underlying257
  a119 := Tryz.isAgg257
  z119 := Tryz.sizeOf257
  t138 := Tryz.underlying259
  a138 := Tryz.isAgg259
  z138 := Tryz.sizeOf259
  v138 := Tryz.zeroValue259
  t139 := Tryz.underlying260
  a139 := Tryz.isAgg260
  z139 := Tryz.sizeOf260
  v139 := Tryz.zeroValue260
  g3 := by kernel_rfl
  g4 := by kernel_rfl }
open Go.RowKit Go.Lib in
theorem Tryz.utf8_DecodeRuneInString (s : ByteArray) (w : World) (hT : Lib.Utf8Tabs 0 1 w) :
    Calls Tryz.prog 161 #[.string s] w fun e w' => e = .returned (.tuple #[.int .i32 (Lib.decodeGo s).1, .int .i64 (Lib.decodeGo s).2]) ∧ Below w.heap.size w w' := Any.utf8_DecodeRuneInString Tryz.lays197 s w hT
end Go.Proofs
namespace Go.Proofs.YtigpaaelggnffaaGreatDoor
open Go.RowKit
/-- The decoder's two tables, as they lie. -/
def Tabs (w : World) : Prop := Lib.Utf8Tabs 0 1 w
def TabBlk (k : Nat) : Prop := k = 0 ∨ k = 1
theorem decode_any (s : ByteArray) (w : World) (hT : Tabs w) : Calls Tryz.prog 161 #[.string s] w fun e w' => e = .returned (.tuple #[.int .i32 (Lib.decodeGo s).1, .int .i64 (Lib.decodeGo s).2]) ∧ Below w.heap.size w w' := Tryz.utf8_DecodeRuneInString s w hT
theorem Tabs.move {A B : World} (h : Tabs A) (far : ∀ (b o : Nat) (v : Value), TabBlk b → A.cell? ⟨b, o, none⟩ = some v → B.cell? ⟨b, o, none⟩ = some v) : Tabs B :=
  ⟨fun c hc => far _ _ _ (.inl rfl) (h.1 c hc), fun i hi => ⟨far _ _ _ (.inr rfl) (h.2 i hi).1, far _ _ _ (.inr rfl) (h.2 i hi).2⟩⟩
theorem Tabs.keep {A B : World} (h : Tabs A) (hk : ∀ k, TabBlk k → k < A.heap.size → B.heap[k]? = A.heap[k]?) : Tabs B := by
  have far : ∀ (b o : Nat) (v : Value), TabBlk b → A.cell? ⟨b, o, none⟩ = some v → B.cell? ⟨b, o, none⟩ = some v := fun b o v hb hc => (World.cell?_of_block (a := ⟨b, o, none⟩) (hk b hb (World.block_lt_of_cell? _ _ hc))).trans hc
  exact ⟨fun c hc => far _ _ _ (.inl rfl) (h.1 c hc), fun i hi => ⟨far _ _ _ (.inr rfl) (h.2 i hi).1, far _ _ _ (.inr rfl) (h.2 i hi).2⟩⟩
theorem Tabs.lt {A : World} (h : Tabs A) {k : Nat} (hk : TabBlk k) : k < A.heap.size := by
  rcases hk with rfl | rfl
  · exact World.block_lt_of_cell? _ _ (h.1 0 (by decide))
  · exact World.block_lt_of_cell? _ _ (h.2 0 (by decide)).1
end Go.Proofs.YtigpaaelggnffaaGreatDoor
namespace Go.Proofs
end Go.Proofs
