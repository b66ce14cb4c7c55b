/- Maps of the call's own: entries in the order in which they came; a lookup, a store at a key that is not there. -/
import Derived.Test.YtbepmbihonnkaaaSpanPure
import Derived.MapKept
import Derived.DeepKeys5
import Derived.Maps.Keyed
import Derived.ChangeKeysEq
namespace Go.Proofs.Ytbepmbihonnkaaa.Sl
open Go.RowKit Go.Proofs.Ytbepmbihonnkaaa.Lib
set_option linter.unusedVariables false
set_option linter.unusedSimpArgs false

/-- Keys that the map's operations take. -/
structure KeyFit (P : Program) (k : TypeId) (Ok : Value → Prop) : Prop where
  check : ∀ (w : World) (em : Bool) (v : Value), Ok v → (Instr.checkKey em 10000 k v).run P w = .ok () w
  find : ∀ (w : World) (x : Value), Ok x → ∀ es : List MapEntry, (∀ e ∈ es, Ok e.key) →
    ((Instr.findKey k x es).run P w = .ok none w ∧ ∀ e ∈ es, e.key ≠ x) ∨ ∃ j e, (Instr.findKey k x es).run P w = .ok (some (j, e.val)) w ∧ es[j]? = some e ∧ e.key = x
/-- The map in block b holds l. -/
def MapAt (w : World) (b : Nat) (l : List (Value × Value)) : Prop := ∃ es clock, w.heap[b]? = some (.map es clock) ∧ es.toList.map (fun e => (e.key, e.val)) = l
section
variable {P : Program} {w w' : World} {b : Nat} {l : List (Value × Value)} {Ok : Value → Prop} {T k e : TypeId}
theorem MapAt.ext {S : Nat → Prop} (h : MapAt w b l) (hx : Ext S w w') (hn : ¬ S b) : MapAt w' b l := by
  obtain ⟨es, c, hb, hl⟩ := h
  exact ⟨es, c, hx.obj hb hn, hl⟩
theorem MapAt.new (w : World) : MapAt (w.alloc (.map #[] 0)) w.heap.size [] := ⟨#[], 0, heap_alloc_new w _, rfl⟩
theorem MapAt.lt (h : MapAt w b l) : b < w.heap.size := by
  obtain ⟨es, c, hb, hl⟩ := h
  exact blk_lt hb
theorem run_look (hT : P.underlying T = some (.map k e)) (F : KeyFit P k Ok) (h : MapAt w b l) (hl : ∀ p ∈ l, Ok p.1) (x z : Value) (hx : Ok x) (hz : (zeroValue e).run P w = .ok z w) :
    (∃ v, (x, v) ∈ l ∧ (Instr.lookup T (.map (some b)) x true).run P w = .ok (.tuple #[v, .bool true]) w) ∨
    ((∀ p ∈ l, p.1 ≠ x) ∧ (Instr.lookup T (.map (some b)) x true).run P w = .ok (.tuple #[z, .bool false]) w) := by
  obtain ⟨es, c, hb, rfl⟩ := h
  have hes : ∀ y ∈ es.toList, Ok y.key := fun y hy => hl (y.key, y.val) (List.mem_map.2 ⟨y, hy, rfl⟩)
  have hg := MapKept.run_getObj_map (P := P) hb
  rcases F.find w x hx es.toList hes with ⟨h1, h2⟩ | ⟨j, y, h1, h2, h3⟩
  · refine .inr ⟨?_, ?_⟩
    · intro p hp
      obtain ⟨y, hy, rfl⟩ := List.mem_map.1 hp
      exact h2 y hy
    · simp [Instr.lookup, run_underlying hT, hg, F.check w _ x hx, h1, hz]
  · refine .inl ⟨y.val, List.mem_map.2 ⟨y, List.mem_of_getElem? h2, by rw [h3]⟩, ?_⟩
    simp [Instr.lookup, run_underlying hT, hg, F.check w _ x hx, h1]
theorem run_put (hT : P.underlying T = some (.map k e)) (F : KeyFit P k Ok) (h : MapAt w b l) (hl : ∀ p ∈ l, Ok p.1) (x v : Value) (hx : Ok x) (hne : ∀ p ∈ l, p.1 ≠ x) :
    ∃ w', (Instr.mapUpdate T (.map (some b)) x v).run P w = .ok () w' ∧ MapAt w' b (l ++ [(x, v)]) ∧ Ext (fun k => k = b) w w' := by
  obtain ⟨es, c, hb, rfl⟩ := h
  have hes : ∀ y ∈ es.toList, Ok y.key := fun y hy => hl (y.key, y.val) (List.mem_map.2 ⟨y, hy, rfl⟩)
  have hg := MapKept.run_getObj_map (P := P) hb
  rcases F.find w x hx es.toList hes with ⟨h1, h2⟩ | ⟨j, y, h1, h2, h3⟩
  · refine ⟨{ w with heap := w.heap.setIfInBounds b (.map (es.push { key := x, val := v, born := c }) (c + 1)) }, by simp [Instr.mapUpdate, run_underlying hT, hg, F.check w _ x hx, h1, MapKept.run_setObj_map (P := P) _ hb], ⟨es.push { key := x, val := v, born := c }, c + 1, ?_, ?_⟩, rfl, rfl, rfl, by simp, fun i hi hn => ?_⟩
    · simp [Array.getElem?_setIfInBounds, (blk_lt hb)]
    · simp
    · simp [Array.getElem?_setIfInBounds]
      intro h
      exact absurd h.symm hn
  · exact absurd h3 (hne (y.key, y.val) (List.mem_map.2 ⟨y, List.mem_of_getElem? h2, rfl⟩))
end
/-- What has a 'Keyed'. -/
theorem KeyFit.of {P : Program} {k : TypeId} (K : Maps.Keyed P k) : KeyFit P k (fun v => ∃ l, keyOf P k v = some l) :=
  ⟨fun w em v ⟨l, h⟩ => K.check w em h, fun w x ⟨l, h⟩ es hes => K.find w h es hes⟩
theorem strFit : KeyFit Try.prog 9 (fun v => ∃ s : ByteArray, s.size ≤ 140737488351232 ∧ v = .string s) := by
  have F := KeyFit.of (Maps.string_keyed (P := Try.prog) Try.underlying9)
  have hk : ∀ s : ByteArray, s.size ≤ 140737488351232 → ∃ l, keyOf Try.prog 9 (.string s) = some l := fun s hs => by
    refine ⟨.string s.data.toList, ?_⟩
    have hm : s.size ≤ maxLen := by unfold maxLen; omega
    simp [keyOf, Try.underlying9, mapKey, hm]
  exact ⟨fun w em v ⟨s, hs, e⟩ => by subst e; exact F.check w em _ (hk s hs), fun w x ⟨s, hs, e⟩ es hes => by
    subst e
    exact F.find w _ (hk s hs) es (fun y hy => by obtain ⟨s', hs', e⟩ := hes y hy; rw [e]; exact hk s' hs')⟩
/-- A find that is the same in every world. -/
def FindU (P : Program) (k : TypeId) (Ok : Value → Prop) : Prop := ∀ (x : Value), Ok x → ∀ es : List MapEntry, (∀ e ∈ es, Ok e.key) →
    ((∀ w : World, (Instr.findKey k x es).run P w = .ok none w) ∧ ∀ e ∈ es, e.key ≠ x) ∨ ∃ j e, (∀ w : World, (Instr.findKey k x es).run P w = .ok (some (j, e.val)) w) ∧ es[j]? = some e ∧ e.key = x
theorem pairFind : FindU Try.prog 102 (fun v => ∃ a b : Int, v = .agg #[.int .i64 a, .int .i64 b]) := by
  have hu := Try.underlying102
  have hi := Try.underlying3
  have heq : ∀ (w : World) (a b c d : Int), (Op.equal 102 (.agg #[.int .i64 a, .int .i64 b]) (.agg #[.int .i64 c, .int .i64 d])).run Try.prog w = .ok (decide (a = c ∧ b = d)) w := fun w a b c d => by
    obtain ⟨i, hinf, _⟩ := info_parts infoI
    have hc : Try.prog.cellsOf 3 = 1 := by kernel_rfl
    simp only [Op.equal, Op.maxDepth]
    rw [run_equalIn_array w 9999 _ _ hu hinf, hc]
    have hr : List.range 2 = [0, 1] := rfl
    simp only [hr]
    by_cases e0 : a = c
    · by_cases e1 : b = d <;> simp [Op.eqItems, part, hi, run_underlying, run_equalIn_int, e0, e1, go_sem]
    · simp [Op.eqItems, part, hi, run_underlying, run_equalIn_int, e0, go_sem]
  have hask : ∀ (a b : Int) (es : List MapEntry) (i : Nat), (∀ e ∈ es, ∃ a b : Int, e.key = .agg #[.int .i64 a, .int .i64 b]) →
      ((∀ w : World, (Instr.findAsking 102 (.agg #[.int .i64 a, .int .i64 b]) es i).run Try.prog w = .ok none w) ∧ ∀ e ∈ es, e.key ≠ .agg #[.int .i64 a, .int .i64 b]) ∨ ∃ j e, (∀ w : World, (Instr.findAsking 102 (.agg #[.int .i64 a, .int .i64 b]) es i).run Try.prog w = .ok (some (i + j, e.val)) w) ∧ es[j]? = some e ∧ e.key = .agg #[.int .i64 a, .int .i64 b] := by
    intro a b es
    induction es with
    | nil => intro i _; exact .inl ⟨fun _ => rfl, by simp⟩
    | cons y es ih =>
      intro i hes
      obtain ⟨c, d, hy⟩ := hes y (by simp)
      have h1 := fun w => heq w a b c d
      by_cases h : a = c ∧ b = d
      · obtain ⟨rfl, rfl⟩ := h
        refine .inr ⟨0, y, ?_, by simp, hy⟩
        intro w
        simp [Instr.findAsking, hy, h1]
      · have hne : y.key ≠ .agg #[.int .i64 a, .int .i64 b] := by
          rw [hy]
          intro e
          simp at e
          exact h ⟨e.1.symm, e.2.symm⟩
        rcases ih (i + 1) (fun e he => hes e (by simp [he])) with ⟨h2, h3⟩ | ⟨j, e, h2, h3, h4⟩
        · refine .inl ⟨fun w => by simp [Instr.findAsking, hy, h1, h, h2], fun e he => ?_⟩
          rcases List.mem_cons.1 he with rfl | he
          · exact hne
          · exact h3 e he
        · refine .inr ⟨j + 1, e, ?_, by simpa using h3, h4⟩
          intro w
          simp [Instr.findAsking, hy, h1, h, h2]
          omega
  rintro x ⟨a, b, rfl⟩ es hes
  have hn : Instr.findNow (.array 2 3) (.agg #[.int .i64 a, .int .i64 b]) es 0 = none ∨ es = [] := by
    cases es with
    | nil => exact .inr rfl
    | cons y es => exact .inl rfl
  rcases hn with hn | rfl
  · have := hask a b es 0 hes
    simp only [Nat.zero_add] at this
    simp only [Instr.findKey, Sem.run_bind, run_underlying hu, Result.andThen_ok, hn]
    exact this
  · refine .inl ⟨fun w => ?_, by simp⟩
    simp [Instr.findKey, run_underlying hu, Instr.findNow]
theorem pairFit : KeyFit Try.prog 102 (fun v => ∃ a b : Int, v = .agg #[.int .i64 a, .int .i64 b]) := by
  refine ⟨fun w em v ⟨a, b, e⟩ => ?_, fun w x hx es hes => ?_⟩
  · subst e
    kernel_rfl
  · rcases pairFind x hx es hes with ⟨h1, h2⟩ | ⟨j, e, h1, h2⟩
    · exact .inl ⟨h1 w, h2⟩
    · exact .inr ⟨j, e, h1 w, h2⟩
theorem run_look_u {P : Program} {w : World} {b : Nat} {l : List (Value × Value)} {Ok : Value → Prop} {T k e : TypeId} (hT : P.underlying T = some (.map k e)) (F : KeyFit P k Ok) (U : FindU P k Ok) (h : MapAt w b l) (hl : ∀ p ∈ l, Ok p.1) (x z : Value) (hx : Ok x) (hz : ∀ w, (zeroValue e).run P w = .ok z w) :
    (∃ v, (x, v) ∈ l ∧ ∀ w', w'.heap[b]? = w.heap[b]? → (Instr.lookup T (.map (some b)) x true).run P w' = .ok (.tuple #[v, .bool true]) w') ∨
    ((∀ p ∈ l, p.1 ≠ x) ∧ ∀ w', w'.heap[b]? = w.heap[b]? → (Instr.lookup T (.map (some b)) x true).run P w' = .ok (.tuple #[z, .bool false]) w') := by
  obtain ⟨es, c, hb, rfl⟩ := h
  have hes : ∀ y ∈ es.toList, Ok y.key := fun y hy => hl (y.key, y.val) (List.mem_map.2 ⟨y, hy, rfl⟩)
  rcases U x hx es.toList hes with ⟨h1, h2⟩ | ⟨j, y, h1, h2, h3⟩
  · refine .inr ⟨?_, fun w' hw => ?_⟩
    · intro p hp
      obtain ⟨y, hy, rfl⟩ := List.mem_map.1 hp
      exact h2 y hy
    · have hg := MapKept.run_getObj_map (P := P) (hw.trans hb)
      simp [Instr.lookup, run_underlying hT, hg, F.check w' _ x hx, h1, hz]
  · refine .inl ⟨y.val, List.mem_map.2 ⟨y, List.mem_of_getElem? h2, by rw [h3]⟩, fun w' hw => ?_⟩
    have hg := MapKept.run_getObj_map (P := P) (hw.trans hb)
    simp [Instr.lookup, run_underlying hT, hg, F.check w' _ x hx, h1]
end Go.Proofs.Ytbepmbihonnkaaa.Sl
