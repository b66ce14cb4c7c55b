/- Steps collected into a slice behind a box: what the loop keeps. -/
import Derived.Test.YtiminpcpnblppaaBpeLong
namespace Go.Proofs.Ytiminpcpnblppaa.Bpe
open Go.RowKit Go.Proofs.Ytiminpcpnblppaa.Lib Go.Proofs.Ytiminpcpnblppaa.Sl Go.Proofs.Ytiminpcpnblppaa.Chain
set_option linter.unusedVariables false
set_option linter.unusedSimpArgs false

def ColI (W0 : World) (tb : Nat) (pre : List (Nat × Nat)) (O : Nat → Prop) (W : World) : Prop :=
  ∃ p c, Ext (fun k => k = tb) W0 W ∧ Boxed W tb 66 (.slice p pre.length c) ∧ Arr W 68 2 p pre.length c (flat eQ pre) ∧ (∀ k, blkOf p = some k → W0.heap.size ≤ k ∧ ¬ O k) ∧ (∀ k, O k → W0.heap.size ≤ k) ∧ tb < W0.heap.size
theorem colI_abide (W0 : World) (tb : Nat) : AbideW (ColI W0 tb) := by
  rintro s O O' A B ⟨p, c, x, bx, ar, fr, hO, lt⟩ h1 h2 hx
  have z := x.size
  have hO' : ∀ k, O' k → W0.heap.size ≤ k := fun k hk => by
    rcases h2 k hk with h | h
    · exact hO k h
    · omega
  have hp : ∀ k, blkOf p = some k → ¬ O' k := fun k hk h => by
    rcases h2 k h with h | h
    · exact (fr k hk).2 h
    · have := arr_lt ar hk; omega
  exact ⟨p, c, x.trans hx (fun i hi h => by have := hO' i h; omega), hx.obj bx (fun h => by have := hO' _ h; omega), arr_ext ar hx (fun k hk h => hp k hk h), fun k hk => ⟨(fr k hk).1, hp k hk⟩, hO', lt⟩
theorem colI_turn (W0 : World) (tb : Nat) : TurnW W0.heap.size (ColI W0 tb) := by
  rintro s O A l o o' ⟨p, c, x, bx, ar, fr, hO, lt⟩ hl nO ho hc
  have hx : Ext (fun k => k = l) A (A.putObj l o') := ext_putObj _ (Ext.refl _ _) (fun _ => rfl)
  refine ⟨p, c, x.trans hx (fun i hi h => by omega), hx.obj bx (fun h => by omega), arr_ext ar hx (fun k hk h => ?_), fr, hO, lt⟩
  obtain ⟨o2, h1, h2⟩ := arr_isCells ar hk
  rw [h, ho] at h1
  cases h1
  rw [hc] at h2
  cases h2
theorem colI_start {W0 W1 : World} {tb : Nat} (hx : W0 = W1) (bx : Boxed W0 tb 66 (.slice none 0 0)) : ColI W0 tb [] (fun _ => False) W1 := by
  subst hx
  exact ⟨none, 0, Ext.refl _ _, bx, arr_nil _ _ _, (fun k hk => by cases hk), (fun k h => False.elim h), bx.lt⟩
/-- A step that is appended. -/
theorem colI_push {W0 W w1 : World} {tb : Nat} {pre : List (Nat × Nat)} {O : Nat → Prop} {x : Nat × Nat} {p p1 : Option Addr} {c c1 : Nat} (hx : Ext (fun k => k = tb) W0 W) (bx : Boxed W tb 66 (.slice p pre.length c)) (ar : Arr W 68 2 p pre.length c (flat eQ pre))
    (fr : ∀ k, blkOf p = some k → W0.heap.size ≤ k ∧ ¬ O k) (hO : ∀ k, O k → W0.heap.size ≤ k ∧ k < W.heap.size) (lt : tb < W0.heap.size)
    (hA : Arr w1 68 2 p1 (pre.length + 1) c1 (flat eQ pre ++ [.int .i64 (x.1 : Int), .int .i64 (x.2 : Int)])) (h1 : Ext (fun k => blkOf p = some k) W w1) (hm : Moved W p p1) :
    let w2 := w1.setCell ⟨tb, 0, none⟩ (.slice p1 (pre.length + 1) c1)
    KeepsOthers W w2 ∧ Ext (Free (fun k => k = tb) O W0.heap.size) W w2 ∧ ColI W0 tb (pre ++ [x]) O w2 := by
  intro w2
  have z := hx.size
  have K1 : KeepsOthers W w1 := ⟨h1.size, fun k o hk ho => h1.obj hk (fun hS => by
    obtain ⟨o', h1', h2'⟩ := arr_isCells ar hS
    rw [hk] at h1'
    cases h1'
    rw [ho] at h2'
    cases h2')⟩
  have nt : ¬ O tb := fun h => by have := (hO _ h).1; omega
  have b1 : Boxed w1 tb 66 (.slice p pre.length c) := h1.obj bx (fun h => by have := (fr _ h).1; omega)
  have hfar : ∀ k, blkOf p1 = some k → W0.heap.size ≤ k ∧ ¬ O k := fun k hk => by
    rcases hm k hk with hh | hh
    · exact fr k hh
    · exact ⟨by omega, fun h => by have := (hO k h).2; omega⟩
  refine ⟨K1.trans (KeepsOthers.setCell _ _ _), (h1.mono (fun k h => ⟨(fr k h).2, .inl (fr k h).1⟩)).setCell (p := ⟨tb, 0, none⟩) (fun _ => ⟨nt, .inr rfl⟩) _, p1, c1, ?_, ?_, ?_, hfar, fun k hk => (hO k hk).1, lt⟩
  · exact (hx.trans h1 (fun i hi hS => by have := (fr i hS).1; omega)).setCell (p := ⟨tb, 0, none⟩) (fun _ => rfl) _
  · have := Boxed.set (.slice p1 (pre.length + 1) c1) b1
    simpa using this
  · have h1' := arr_far hA (q := ⟨tb, 0, none⟩) (fun h => by have := (hfar _ h).1; simp at this; omega) (.slice p1 (pre.length + 1) c1)
    have e : flat eQ (pre ++ [x]) = flat eQ pre ++ [.int .i64 (x.1 : Int), .int .i64 (x.2 : Int)] := by
      rw [flat_append]; rfl
    rw [e]
    simpa using h1'
end Go.Proofs.Ytiminpcpnblppaa.Bpe
