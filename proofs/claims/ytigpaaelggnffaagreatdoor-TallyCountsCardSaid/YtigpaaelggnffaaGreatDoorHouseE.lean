/- What the small model makes of 'the ab'. -/
import Derived.Test.YtigpaaelggnffaaGreatDoorEncode
namespace Go.Proofs.YtigpaaelggnffaaGreatDoor.Cut
open Go.Proofs.YtigpaaelggnffaaGreatDoor.Lib Go.Proofs.YtigpaaelggnffaaGreatDoor.Sl
theorem house_enc : encT houseDat 9 ⟨#[116, 104, 101, 32, 97, 98]⟩ = ([259, 32, 256], false) := by decide +kernel
end Go.Proofs.YtigpaaelggnffaaGreatDoor.Cut
