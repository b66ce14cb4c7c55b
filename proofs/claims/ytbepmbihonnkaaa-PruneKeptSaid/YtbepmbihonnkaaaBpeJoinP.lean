/- Joined, pure: what a step does to what is still to come. -/
import Derived.Test.YtbepmbihonnkaaaBpeStep
namespace Go.Proofs.Ytbepmbihonnkaaa.Bpe
open Go.RowKit Go.Proofs.Ytbepmbihonnkaaa.Lib Go.Proofs.Ytbepmbihonnkaaa.Sl Go.Proofs.Ytbepmbihonnkaaa.Chain Go.Proofs.Ytbepmbihonnkaaa.ElBpe Go.Proofs.Ytbepmbihonnkaaa.HeapPure
set_option linter.unusedVariables false
set_option linter.unusedSimpArgs false

def okId (d : Dat) (id : Int) : Bool := decide (0 ≤ id) && decide (id < 256 + (d.ms.length : Int))
/-- What Joined tells. -/
def joinedT (d : Dat) (ids : List Int) : List Int × Int := if 1048576 < ids.length then ([], 3) else if ids.all (okId d) = true then ((joinT d.ms ids).1, 0) else ([], 24)
theorem step_join {ms : List Mrg} {n : Nat} {I : List Int} {al : Nat → Bool} {x : El} (hI : I.length = n) (hx : nextT ms (cur I al n) = some (x.f0.toNat, cnt al x.f1.toNat, x.f5)) (hv : Valid n I al x) :
    joinT ms (cur I al n) = ((joinT ms (cur (I.set x.f1.toNat x.f5) (cutAl al x.f2.toNat) n)).1, (x.f0.toNat, cnt al x.f1.toNat) :: (joinT ms (cur (I.set x.f1.toNat x.f5) (cutAl al x.f2.toNat) n)).2) ∧
      cnt (cutAl al x.f2.toNat) n + 1 = cnt al n := by
  refine ⟨by rw [joinT_some hx, cur_cut hv.1 hI], ?_⟩
  have := cnt_cut al x.f2.toNat hv.1.right n
  rw [if_pos hv.1.hn] at this
  exact this
end Go.Proofs.Ytbepmbihonnkaaa.Bpe
