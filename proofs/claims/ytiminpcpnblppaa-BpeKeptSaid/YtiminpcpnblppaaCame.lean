/- Small words on ids: what an id's word tells; numbers that came in. -/
import Derived.Test.YtiminpcpnblppaaRowKit
import Derived.Test.YtiminpcpnblppaaBpeJoinP
import Derived.Test.YtiminpcpnblppaaRight
namespace Go.Proofs.Ytiminpcpnblppaa.Bpe
open Go.RowKit Go.Proofs.Ytiminpcpnblppaa.Lib Go.Proofs.Ytiminpcpnblppaa.Sl
set_option linter.unusedVariables false
set_option linter.unusedSimpArgs false

theorem rd_came {w : World} {p : Option Addr} {len : Nat} {ys : Nat → Int} (h : RowK.CameInts .i64 w p len ys) : Rd eI w p ((List.range len).map ys) := by
  intro i x hi
  rw [List.getElem?_map] at hi
  by_cases hl : i < len
  · rw [List.getElem?_range hl] at hi
    injection hi with hi
    obtain ⟨b, o, hp, hb, hc⟩ := h i hl
    refine ⟨b, o, hp, hb, fun j hj => ?_⟩
    have : j = 0 := by have : eI.sz = 1 := rfl; omega
    subst this
    show w.cell? ⟨b, o + i * 1 + 0, none⟩ = some (.int .i64 x)
    rw [Nat.mul_one, Nat.add_zero, hc, hi]
  · rw [List.getElem?_eq_none (by rw [List.length_range]; omega)] at hi
    cases hi
theorem came_list {w : World} {p : Option Addr} {len : Nat} {ys : Nat → Int} (hC : RowK.CameInts .i64 w p len ys) (hwf : ∀ i, i < len → (Lit.int .i64 (ys i)).wf = true) : ∃ xs : List Int, xs.length = len ∧ Rd eI w p xs ∧ ∀ x ∈ xs, (Lit.int .i64 x).wf = true :=
  ⟨(List.range len).map ys, by simp, rd_came hC, fun x hx => by
    rw [List.mem_map] at hx
    obtain ⟨i, hi, rfl⟩ := hx
    exact hwf i (List.mem_range.1 hi)⟩
theorem word_ok {d : Dat} (hd : RightD d) (id : Int) : (wordOf d.ws id).2 = okId d id := by
  have hl := hd.len
  unfold wordOf okId
  by_cases h0 : id < 0
  · rw [if_pos h0, decide_eq_false (show ¬ 0 ≤ id by omega)]; rfl
  by_cases h1 : 256 + (d.ws.length : Int) ≤ id
  · rw [if_neg h0, if_pos h1, decide_eq_false (show ¬ id < 256 + (d.ms.length : Int) by omega), Bool.and_false]
  rw [if_neg h0, if_neg h1, decide_eq_true (show 0 ≤ id by omega), decide_eq_true (show id < 256 + (d.ms.length : Int) by omega)]
  split <;> rfl
end Go.Proofs.Ytiminpcpnblppaa.Bpe
