/- For the rows that list the decoder's two tables: the tables, as they lie where the call begins. -/
import Derived.Test.YtigpaaelggnffaaGreatDoorRows
import Derived.Test.YtigpaaelggnffaaGreatDoorShelf
import Derived.Lib.LaidU8T
import Derived.PinnedBridge
namespace Go.Proofs.YtigpaaelggnffaaGreatDoor.RowK
open Go.Lib Go.Shelf

theorem u8types : U8Types Tryz.prog Tryz.lays197_ren := { Tryz.lays197 with }
theorem u8extra : U8Extra Tryz.prog Tryz.lays197_ren := ⟨by kernel_rfl, by kernel_rfl, by kernel_rfl, by kernel_rfl, by kernel_rfl, by kernel_rfl, by kernel_rfl⟩
theorem accept_eq : (Rows.laid_unicode_utf8_acceptRanges : DataW Unit) = acceptData := by kernel_rfl
theorem first_eq : Rows.laid_unicode_utf8_first = firstData := Pinned.utf8First_eq
theorem tabs_of_laid {l : List (String × DataW Unit)} {W : World} (h : laidMet Tryz.prog l W) (h1 : ("unicode/utf8.first", Rows.laid_unicode_utf8_first) ∈ l) (h2 : ("unicode/utf8.acceptRanges", Rows.laid_unicode_utf8_acceptRanges) ∈ l) : Tabs W :=
  utf8Tabs_of_readsT u8types u8extra (laidMet.reads h (first_eq ▸ h1)) (laidMet.reads h (accept_eq ▸ h2))
end Go.Proofs.YtigpaaelggnffaaGreatDoor.RowK
