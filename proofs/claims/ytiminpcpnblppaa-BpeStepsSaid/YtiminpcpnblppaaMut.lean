/- A loop over an iterator that writes memory of its own between the rounds. -/
import Derived.Test.YtiminpcpnblppaaLib
import Derived.RangeFuncFrom
namespace Go.Proofs.Ytiminpcpnblppaa.Lib
open Go.RowKit
set_option linter.unusedVariables false
set_option linter.unusedSimpArgs false

/-- What a round may change: nothing of the iterator's own (O), and of what lay below b nothing but V. -/
def Free (V O : Nat → Prop) (b : Nat) (k : Nat) : Prop := ¬ O k ∧ (b ≤ k ∨ V k)
/-- The caller's word abides what the iterator writes. -/
def AbideW {β : Type} (J : β → (Nat → Prop) → World → Prop) : Prop :=
  ∀ s (O O' : Nat → Prop) (A B : World), J s O A → (∀ k, O k → O' k) → (∀ k, O' k → O k ∨ A.heap.size ≤ k) → Ext O' A B → J s O' B
/-- It abides the turn of a block from b on that holds no cells and is none of the iterator's. -/
def TurnW {β : Type} (b : Nat) (J : β → (Nat → Prop) → World → Prop) : Prop :=
  ∀ s (O : Nat → Prop) (A : World) (l : Nat) (o o' : Obj), J s O A → b ≤ l → ¬ O l → A.heap[l]? = some o → o.isCells = false → J s O (A.putObj l o')
def SeqMut {α : Type} (F : Fence) (n : Nat) (P : Program) (g : Nat) (lb : Array Value) (encs : α → Array Value) (V : Nat → Prop) (Nx : List α → α → Prop) (S Sp : List α → Prop) (w : World) : Prop :=
  ∀ (l : Nat) (J Jx : List α → (Nat → Prop) → World → Prop) (W : World), Ext (fun _ => False) w W → AbideW J → AbideW Jx →
    (∀ pre x O W1, J pre O W1 → Nx pre x → (∀ k, O k → W.heap.size ≤ k ∧ k < W1.heap.size) → YieldAt F (n - 1) P l (encs x) W1 fun e W' =>
      (e = .returned (.bool true) ∧ J (pre ++ [x]) O W' ∧ Ext (Free V O w.heap.size) W1 W') ∨ (e = .returned (.bool false) ∧ Jx (pre ++ [x]) O W')) →
    J [] (fun _ => False) W →
    CallsIn F n P g (#[.func (.yield l) #[] #[]] ++ lb) W fun e W' => (∃ v, e = .returned v) ∧
      ((∃ xs O, S xs ∧ (∀ k, O k → W.heap.size ≤ k) ∧ J xs O W') ∨ (∃ pre O, Sp pre ∧ (∀ k, O k → W.heap.size ≤ k) ∧ Jx pre O W'))
/-- How a round may be left. -/
def mutPost {α : Type} (V O : Nat → Prop) (b : Nat) (I : List α → (Nat → Prop) → World → Prop) (Ix : Code → List α → (Nat → Prop) → World → Prop) (xs : List α) (W : World) : Exit → Act → World → Prop
  | .normal, _, W' => KeepsOthers W W' ∧ Ext (Free V O b) W W' ∧ I xs O W'
  | .ret, _, W' => KeepsOthers W W' ∧ Ix .ret xs O W'
  | .exit id, _, W' => KeepsOthers W W' ∧ Ix (.exit id) xs O W'
  | .goto t, _, W' => KeepsOthers W W' ∧ Ix (.goto t) xs O W'
  | .panic _, _, _ => False
  | .outgrown, _, _ => False
theorem ext_putObj {S : Nat → Prop} {w A : World} {l : Nat} (o : Obj) (h : Ext S w A) (hS : l < w.heap.size → S l) : Ext S w (A.putObj l o) :=
  ⟨h.os, h.tape, h.output, by simpa [World.putObj] using h.size, fun k hk hn => (World.putObj_heap_other (fun e => by subst e; exact hn (hS hk))).trans (h.block k hk hn)⟩
/-- The caller's word, with the loop's own two blocks beside it. -/
def WithRec {β : Type} (D : Nat) (o : Obj) (I : β → (Nat → Prop) → World → Prop) (s : β) (O : Nat → Prop) (A : World) : Prop :=
  I s O A ∧ A.heap[D + 1]? = some o ∧ A.heap[D]? = some (.deferred (some [])) ∧ ∀ k, O k → D + 2 ≤ k
theorem WithRec.abide {β : Type} {D : Nat} {o : Obj} {I : β → (Nat → Prop) → World → Prop} (hI : AbideW I) : AbideW (WithRec D o I) := by
  rintro s O O' A B ⟨i, r, d, hO⟩ h1 h2 hx
  have far : ∀ (o : Obj) (k : Nat), k < D + 2 → A.heap[k]? = some o → B.heap[k]? = some o := fun o k hk ho => hx.obj ho (fun h => by
    rcases h2 _ h with h | h
    · have := hO _ h; omega
    · have := blk_lt ho; omega)
  exact ⟨hI s O O' A B i h1 h2 hx, far _ _ (by omega) r, far _ _ (by omega) d, fun k hk => by
    rcases h2 k hk with h | h
    · exact hO k h
    · have := blk_lt r; omega⟩
variable {F : Fence} {n : Nat} {P : Program}
set_option maxHeartbeats 400000 in
theorem wpIn_range_mut {α : Type} {g : Operand} {ps : Array Tmp} {assign body : Code} {Q : Exit → Act → World → Prop} {a : Act} {w : World}
    (hro : F.round = none) (h1 : 1 ≤ n) {gf : Nat} {lb : Array Value} (hg : a.eval g = .func (.func gf) #[] lb) (hFg : F.fn gf) (eg : ∀ args w, (callFunc gf args).run P w = .ok (.enter gf args) w)
    {encs : α → Array Value} {V : Nat → Prop} {Nx : List α → α → Prop} {S Sp : List α → Prop} (hseq : SeqMut F (n - 1) P gf lb encs V Nx S Sp w) (hps : ∀ x, (encs x).size = ps.size)
    (I : List α → (Nat → Prop) → World → Prop) (Ix : Code → List α → (Nat → Prop) → World → Prop) (hI : AbideW I) (hT : TurnW w.heap.size I) (hIx : ∀ c, AbideW (Ix c)) (hTx : ∀ c, TurnW w.heap.size (Ix c)) (h0 : I [] (fun _ => False) w) (a₁ : α → Nat → Act) (Pa : α → Nat → World → Prop) (hPa : ∀ x k W l o o', Pa x k W → W.heap[l]? = some o → o.isCells = false → Pa x k (W.putObj l o'))
    (hassign : ∀ (l : Nat) (x : α) (W : World) (k : Nat) (K : Act → World → Prop), W.heap.size = k → (∀ W', Ext (fun _ => False) W W' → Pa x k W' → K (a₁ x k) W') →
      assign.wpIn (F.inRound l) (n - 1 - 1) P (Exit.then K (fun _ _ _ => False)) { tmps := (ps.zip (encs x)).foldl (fun t (p, v) => t.setIfInBounds p v) a.tmps, defers := [] } W)
    (hbody : ∀ (l : Nat) (pre : List α) (x : α) (O : Nat → Prop) (W : World) (k : Nat), I pre O W → Nx pre x → (∀ k, O k → w.heap.size ≤ k ∧ k < W.heap.size) → Pa x k W → body.wpIn (F.inRound l) (n - 1 - 1) P (mutPost V O w.heap.size I Ix (pre ++ [x]) W) (a₁ x k) W)
    (hdone : ∀ (D : Nat) (xs : List α) (O : Nat → Prop) (W : World), w.heap.size ≤ D → S xs → I xs O W → ¬ O D → W.heap[D]? = some (.deferred (some [])) → Q .normal { a with defers := { target := .collected D, args := #[] } :: a.defers } W)
    (hstop : ∀ (D : Nat) (c : Code) (pre : List α) (O : Nat → Prop) (W : World), w.heap.size ≤ D → Sp pre → Ix c pre O W → ¬ O D → W.heap[D]? = some (.deferred (some [])) → c.wpIn F n P Q { a with defers := { target := .collected D, args := #[] } :: a.defers } W) :
    (Code.rangeFunc g ps assign body).wpIn F n P Q a w := by
  refine wpIn_rangeFunc (fun fn hfn => ?_)
  rw [hro]
  obtain ⟨D, hD⟩ : ∃ D, w.heap.size = D := ⟨_, rfl⟩
  obtain ⟨rc, hrc⟩ : ∃ rc : LoopState → Option Code → Loop, ∀ st pe, rc st pe = { state := st, pending := pe, fn, tmps := a.tmps, params := ps, assign, body, defers := D } := ⟨_, fun _ _ => rfl⟩
  obtain ⟨W1, hW1⟩ : ∃ W1, (w.alloc (.deferred (some []))).alloc (.loop (rc .ready none)) = W1 := ⟨_, rfl⟩
  have X1 : Ext (fun _ => False) w W1 := by rw [← hW1]; exact ((Ext.refl _ w).alloc _).alloc _
  have sz1 : W1.heap.size = D + 2 := by rw [← hW1, ← hD]; simp
  have hR1 : W1.heap[D + 1]? = some (.loop (rc .ready none)) := by
    rw [← hW1, ← hD]
    have := World.alloc_heap_new (w.alloc (.deferred (some []))) (.loop (rc .ready none))
    rwa [World.size_alloc] at this
  have hD1 : W1.heap[D]? = some (.deferred (some [])) := by
    rw [← hW1, ← hD]
    exact (Below.heap_alloc _ _ _ (by simp)).trans (World.alloc_heap_new w _)
  obtain ⟨J, hJd⟩ : ∃ J, J = WithRec D (.loop (rc .ready none)) I := ⟨_, rfl⟩
  obtain ⟨Jx, hJxd⟩ : ∃ Jx : List α → (Nat → Prop) → World → Prop, Jx = fun s O A => ∃ c, WithRec D (.loop (rc .done (some c))) (Ix c) s O A := ⟨_, rfl⟩
  have hJ : AbideW J := by rw [hJd]; exact WithRec.abide hI
  have hJx : AbideW Jx := by
    rw [hJxd]
    rintro s O O' A B ⟨c, h⟩ h1 h2 hx
    exact ⟨c, WithRec.abide (hIx c) s O O' A B h h1 h2 hx⟩
  have yieldAt : ∀ pre x O W, J pre O W → Nx pre x → (∀ k, O k → W1.heap.size ≤ k ∧ k < W.heap.size) → YieldAt F (n - 1 - 1) P (D + 1) (encs x) W fun e W' =>
      (e = .returned (.bool true) ∧ J (pre ++ [x]) O W' ∧ Ext (Free V O w.heap.size) W W') ∨ (e = .returned (.bool false) ∧ Jx (pre ++ [x]) O W') := by
    rw [hJd, hJxd]
    rintro pre x O W0 ⟨hi0, hr0, hd0, hO⟩ hnx hOW
    have hy := run_yield (P := P) (args := encs x) hr0 (by rw [hrc]; exact hps x)
    rw [hrc] at hy
    refine ⟨fn, _, assign, body, hy, roundIn_of_wpIn hfn (hassign _ x W0 _ _ rfl (fun W hxW hpa => ⟨_, run_beginRound (hxW.obj hr0 (fun h => h)) (by rw [hrc]), ?_⟩))⟩
    have hr := hxW.obj hr0 (fun h => h)
    have hd := hxW.obj hd0 (fun h => h)
    have hlt := blk_lt hr
    have hi : I pre O W := hI _ _ _ _ _ hi0 (fun _ h => h) (fun _ h => .inl h) (hxW.mono (fun _ h => h.elim))
    obtain ⟨W2, hW2⟩ : ∃ W2, W.putObj (D + 1) (.loop { rc .ready none with state := .busy }) = W2 := ⟨_, rfl⟩
    have hr2 : W2.heap[D + 1]? = some (.loop { rc .ready none with state := .busy }) := by rw [← hW2]; exact World.putObj_heap_same hlt
    have hd2 : W2.heap[D]? = some (.deferred (some [])) := by rw [← hW2]; exact (World.putObj_heap_other (by omega)).trans hd
    have nO : ¬ O (D + 1) := fun h => by have := hO _ h; omega
    have x2 : Ext (Free V O w.heap.size) W0 W2 := by rw [← hW2]; exact ext_putObj _ (hxW.mono (fun _ h => h.elim)) (fun _ => ⟨nO, .inl (by omega)⟩)
    have hi2 : I pre O W2 := by rw [← hW2]; exact hT _ _ _ _ _ _ hi (by omega) nO hr rfl
    have hpa2 : Pa x W0.heap.size W2 := by rw [← hW2]; exact hPa _ _ _ _ _ _ hpa hr rfl
    have hz2 : W0.heap.size ≤ W2.heap.size := x2.size
    rw [hW2]
    refine wpIn_mono (hbody _ pre x O W2 _ hi2 hnx (fun k hk => by have := hO k hk; have := (hOW k hk).2; omega) hpa2) ?_
    have fin : ∀ (jump : Option Code) (W3 : World), KeepsOthers W2 W3 → ∃ W4, W4 = W3.putObj (D + 1) (.loop (rc (if jump.isNone then .ready else .done) jump)) ∧ (Instr.endRound (D + 1) jump).run P W3 = .ok (.bool jump.isNone) W4 ∧
        W4.heap[D + 1]? = some (.loop (rc (if jump.isNone then .ready else .done) jump)) ∧ W4.heap[D]? = some (.deferred (some [])) ∧ ∃ o, W3.heap[D + 1]? = some o ∧ o.isCells = false := fun jump W3 hk => by
      have hr3 := hk.same _ _ hr2 rfl
      have hd3 := hk.same _ _ hd2 rfl
      have hend := run_endRound (P := P) jump hr3
      rw [hrc] at hend
      refine ⟨_, rfl, by rw [hrc]; exact hend, World.putObj_heap_same (blk_lt hr3), (World.putObj_heap_other (by omega)).trans hd3, _, hr3, rfl⟩
    rintro e a3 W3 hp
    cases e with
    | normal =>
      obtain ⟨hk, hx3, hi3⟩ := hp
      obtain ⟨W4, e4, hend, hr4, hd4, o, ho, hc⟩ := fin none W3 hk
      refine ⟨_, _, hend, .inl ⟨rfl, ⟨?_, hr4, hd4, hO⟩, ?_⟩⟩
      · rw [e4]; exact hT _ _ _ _ _ _ hi3 (by omega) nO ho hc
      · rw [e4]; exact ext_putObj _ (x2.trans hx3 (fun _ _ h => h)) (fun _ => ⟨nO, .inl (by omega)⟩)
    | ret =>
      obtain ⟨hk, hi3⟩ := hp
      obtain ⟨W4, e4, hend, hr4, hd4, o, ho, hc⟩ := fin (some .ret) W3 hk
      exact ⟨_, _, hend, .inr ⟨rfl, .ret, by rw [e4]; exact hTx _ _ _ _ _ _ _ hi3 (by omega) nO ho hc, hr4, hd4, hO⟩⟩
    | exit id =>
      obtain ⟨hk, hi3⟩ := hp
      obtain ⟨W4, e4, hend, hr4, hd4, o, ho, hc⟩ := fin (some (.exit id)) W3 hk
      exact ⟨_, _, hend, .inr ⟨rfl, .exit id, by rw [e4]; exact hTx _ _ _ _ _ _ _ hi3 (by omega) nO ho hc, hr4, hd4, hO⟩⟩
    | goto t =>
      obtain ⟨hk, hi3⟩ := hp
      obtain ⟨W4, e4, hend, hr4, hd4, o, ho, hc⟩ := fin (some (.goto t)) W3 hk
      exact ⟨_, _, hend, .inr ⟨rfl, .goto t, by rw [e4]; exact hTx _ _ _ _ _ _ _ hi3 (by omega) nO ho hc, hr4, hd4, hO⟩⟩
    | panic ch => exact hp.elim
    | outgrown => exact hp.elim
  have call := hseq (D + 1) J Jx W1 X1 hJ hJx yieldAt (by rw [hJd]; exact ⟨hI _ _ _ _ _ h0 (fun _ h => h) (fun _ h => h.elim) X1, hR1, hD1, fun _ h => h.elim⟩)
  rw [hJd, hJxd] at call
  refine ⟨D + 1, [{ target := .collected D, args := #[] }], W1, { target := .fn (.func gf) lb, args := #[.func (.yield (D + 1)) #[] #[]] }, W1, gf, #[.func (.yield (D + 1)) #[] #[]] ++ lb, W1, ?_, ?_, ?_, ?_, fun _ => h1, ?_⟩
  · rw [← hW1, hrc, ← hD]
    exact run_enterLoop_outer _ _ _ _ _
  · simp only [resolve, hg]
    simp [go_sem]
  · intro f' hf'
    simp [Target.leads] at hf'
    subst hf'
    exact hFg
  · simp [invoke, go_sem, eg]
  · refine call.mono ?_
    rintro e W2 ⟨⟨v, rfl⟩, (⟨xs, O, hS, _, hi, hr, hd, hO⟩ | ⟨pre, O, hS, _, c, hi, hr, hd, hO⟩)⟩
    · have nO : ¬ O (D + 1) := fun h => by have := hO _ h; omega
      have hend := run_endLoop (P := P) hr (by rw [hrc]; simp)
      rw [hrc] at hend
      exact ⟨none, _, hend, hdone D xs O _ (by omega) hS (hT _ _ _ _ _ _ hi (by omega) nO hr rfl) (fun h => by have := hO _ h; omega) ((World.putObj_heap_other (by omega)).trans hd)⟩
    · have nO : ¬ O (D + 1) := fun h => by have := hO _ h; omega
      have hend := run_endLoop (P := P) hr (by rw [hrc]; simp)
      rw [hrc] at hend
      exact ⟨some c, _, hend, hstop D c pre O _ (by omega) hS (hTx _ _ _ _ _ _ _ hi (by omega) nO hr rfl) (fun h => by have := hO _ h; omega) ((World.putObj_heap_other (by omega)).trans hd)⟩
end Go.Proofs.Ytiminpcpnblppaa.Lib
