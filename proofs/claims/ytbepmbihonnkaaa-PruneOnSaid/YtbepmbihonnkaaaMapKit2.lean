/- Maps with int keys: a lookup of one answer, a length. -/
import Derived.Test.YtbepmbihonnkaaaMapKit
namespace Go.Proofs.Ytbepmbihonnkaaa.Sl
open Go.RowKit Go.Proofs.Ytbepmbihonnkaaa.Lib
set_option linter.unusedVariables false
set_option linter.unusedSimpArgs false

theorem intFit : KeyFit Try.prog 3 (fun v => ∃ n : Int, inI n ∧ v = .int .i64 n) := by
  have F := KeyFit.of (Maps.int_keyed (P := Try.prog) Try.underlying3)
  have hk : ∀ n : Int, inI n → ∃ l, keyOf Try.prog 3 (.int .i64 n) = some l := fun n hn => by
    unfold inI at hn
    refine ⟨.int .i64 n, ?_⟩
    simp [keyOf, Try.underlying3, mapKey, Lit.wf, IntKind.min, IntKind.max, IntKind.signed, IntKind.bits]
    try omega
  exact ⟨fun w em v ⟨s, hs, e⟩ => by subst e; exact F.check w em _ (hk s hs), fun w x ⟨s, hs, e⟩ es hes => by
    subst e
    exact F.find w _ (hk s hs) es (fun y hy => by obtain ⟨s', hs', e⟩ := hes y hy; rw [e]; exact hk s' hs')⟩
section
variable {P : Program} {w w' : World} {b : Nat} {l : List (Value × Value)} {Ok : Value → Prop} {T k e : TypeId}
theorem run_look1 (hT : P.underlying T = some (.map k e)) (F : KeyFit P k Ok) (h : MapAt w b l) (hl : ∀ p ∈ l, Ok p.1) (x z : Value) (hx : Ok x) (hz : (zeroValue e).run P w = .ok z w) :
    (∃ v, (x, v) ∈ l ∧ (Instr.lookup T (.map (some b)) x false).run P w = .ok v w) ∨
    ((∀ p ∈ l, p.1 ≠ x) ∧ (Instr.lookup T (.map (some b)) x false).run P w = .ok z w) := by
  obtain ⟨es, c, hb, rfl⟩ := h
  have hes : ∀ y ∈ es.toList, Ok y.key := fun y hy => hl (y.key, y.val) (List.mem_map.2 ⟨y, hy, rfl⟩)
  have hg := MapKept.run_getObj_map (P := P) hb
  rcases F.find w x hx es.toList hes with ⟨h1, h2⟩ | ⟨j, y, h1, h2, h3⟩
  · refine .inr ⟨?_, ?_⟩
    · intro p hp
      obtain ⟨y, hy, rfl⟩ := List.mem_map.1 hp
      exact h2 y hy
    · simp [Instr.lookup, run_underlying hT, hg, F.check w _ x hx, h1, hz]
  · refine .inl ⟨y.val, List.mem_map.2 ⟨y, List.mem_of_getElem? h2, by rw [h3]⟩, ?_⟩
    simp [Instr.lookup, run_underlying hT, hg, F.check w _ x hx, h1]
theorem run_len_at (hT : P.underlying T = some (.map k e)) (h : MapAt w b l) (ty : TypeId) : (Builtin.len_ #[T] ty #[.map (some b)]).run P w = .ok (goInt l.length) w := by
  obtain ⟨es, c, hb, rfl⟩ := h
  have hg := MapKept.run_getObj_map (P := P) hb
  simp [Builtin.len_, run_underlying hT, hg]
end
end Go.Proofs.Ytbepmbihonnkaaa.Sl
