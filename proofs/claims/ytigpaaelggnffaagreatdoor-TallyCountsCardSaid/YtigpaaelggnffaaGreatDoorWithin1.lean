/- Merged of Mut, Win, Came, WordI, Within, Within1. -/
import Derived.Test.YtigpaaelggnffaaGreatDoorSpanPure
import Derived.RangeFuncFrom
import Derived.ArgAppend
import Derived.Deep.Upon
import Derived.Test.YtigpaaelggnffaaGreatDoorBpeJoined
import Derived.Test.YtigpaaelggnffaaGreatDoorRight
/- A loop over an iterator that writes memory of its own between the rounds. -/
namespace Go.Proofs.YtigpaaelggnffaaGreatDoor.Lib
open Go.RowKit
set_option linter.unusedVariables false
set_option linter.unusedSimpArgs false

/-- What a round may change: nothing of the iterator's own (O), and of what lay below b nothing but V. -/
def Free (V O : Nat → Prop) (b : Nat) (k : Nat) : Prop := ¬ O k ∧ (b ≤ k ∨ V k)
/-- The caller's word abides what the iterator writes. -/
def AbideW {β : Type} (J : β → (Nat → Prop) → World → Prop) : Prop :=
  ∀ s (O O' : Nat → Prop) (A B : World), J s O A → (∀ k, O k → O' k) → (∀ k, O' k → O k ∨ A.heap.size ≤ k) → Ext O' A B → J s O' B
/-- It abides the turn of a block from b on that holds no cells and is none of the iterator's. -/
def TurnW {β : Type} (b : Nat) (J : β → (Nat → Prop) → World → Prop) : Prop :=
  ∀ s (O : Nat → Prop) (A : World) (l : Nat) (o o' : Obj), J s O A → b ≤ l → ¬ O l → A.heap[l]? = some o → o.isCells = false → J s O (A.putObj l o')
def SeqMut {α : Type} (F : Fence) (n : Nat) (P : Program) (g : Nat) (lb : Array Value) (encs : α → Array Value) (V : Nat → Prop) (Nx : List α → α → Prop) (S Sp : List α → Prop) (w : World) : Prop :=
  ∀ (l : Nat) (J Jx : List α → (Nat → Prop) → World → Prop) (W : World), Ext (fun _ => False) w W → AbideW J → AbideW Jx →
    (∀ pre x O W1, J pre O W1 → Nx pre x → (∀ k, O k → W.heap.size ≤ k ∧ k < W1.heap.size) → YieldAt F (n - 1) P l (encs x) W1 fun e W' =>
      (e = .returned (.bool true) ∧ J (pre ++ [x]) O W' ∧ Ext (Free V O w.heap.size) W1 W') ∨ (e = .returned (.bool false) ∧ Jx (pre ++ [x]) O W')) →
    J [] (fun _ => False) W →
    CallsIn F n P g (#[.func (.yield l) #[] #[]] ++ lb) W fun e W' => (∃ v, e = .returned v) ∧
      ((∃ xs O, S xs ∧ (∀ k, O k → W.heap.size ≤ k) ∧ J xs O W') ∨ (∃ pre O, Sp pre ∧ (∀ k, O k → W.heap.size ≤ k) ∧ Jx pre O W'))
/-- How a round may be left. -/
def mutPost {α : Type} (V O : Nat → Prop) (b : Nat) (I : List α → (Nat → Prop) → World → Prop) (Ix : Code → List α → (Nat → Prop) → World → Prop) (xs : List α) (W : World) : Exit → Act → World → Prop
  | .normal, _, W' => KeepsOthers W W' ∧ Ext (Free V O b) W W' ∧ I xs O W'
  | .ret, _, W' => KeepsOthers W W' ∧ Ix .ret xs O W'
  | .exit id, _, W' => KeepsOthers W W' ∧ Ix (.exit id) xs O W'
  | .goto t, _, W' => KeepsOthers W W' ∧ Ix (.goto t) xs O W'
  | .panic _, _, _ => False
  | .outgrown, _, _ => False
theorem ext_putObj {S : Nat → Prop} {w A : World} {l : Nat} (o : Obj) (h : Ext S w A) (hS : l < w.heap.size → S l) : Ext S w (A.putObj l o) :=
  ⟨h.os, h.tape, h.output, by simpa [World.putObj] using h.size, fun k hk hn => (World.putObj_heap_other (fun e => by subst e; exact hn (hS hk))).trans (h.block k hk hn)⟩
/-- The caller's word, with the loop's own two blocks beside it. -/
def WithRec {β : Type} (D : Nat) (o : Obj) (I : β → (Nat → Prop) → World → Prop) (s : β) (O : Nat → Prop) (A : World) : Prop :=
  I s O A ∧ A.heap[D + 1]? = some o ∧ A.heap[D]? = some (.deferred (some [])) ∧ ∀ k, O k → D + 2 ≤ k
theorem WithRec.abide {β : Type} {D : Nat} {o : Obj} {I : β → (Nat → Prop) → World → Prop} (hI : AbideW I) : AbideW (WithRec D o I) := by
  rintro s O O' A B ⟨i, r, d, hO⟩ h1 h2 hx
  have far : ∀ (o : Obj) (k : Nat), k < D + 2 → A.heap[k]? = some o → B.heap[k]? = some o := fun o k hk ho => hx.obj ho (fun h => by
    rcases h2 _ h with h | h
    · have := hO _ h; omega
    · have := blk_lt ho; omega)
  exact ⟨hI s O O' A B i h1 h2 hx, far _ _ (by omega) r, far _ _ (by omega) d, fun k hk => by
    rcases h2 k hk with h | h
    · exact hO k h
    · have := blk_lt r; omega⟩
variable {F : Fence} {n : Nat} {P : Program}
set_option maxHeartbeats 400000 in
theorem wpIn_range_mut {α : Type} {g : Operand} {ps : Array Tmp} {assign body : Code} {Q : Exit → Act → World → Prop} {a : Act} {w : World}
    (hro : F.round = none) (h1 : 1 ≤ n) {gf : Nat} {lb : Array Value} (hg : a.eval g = .func (.func gf) #[] lb) (hFg : F.fn gf) (eg : ∀ args w, (callFunc gf args).run P w = .ok (.enter gf args) w)
    {encs : α → Array Value} {V : Nat → Prop} {Nx : List α → α → Prop} {S Sp : List α → Prop} (hseq : SeqMut F (n - 1) P gf lb encs V Nx S Sp w) (hps : ∀ x, (encs x).size = ps.size)
    (I : List α → (Nat → Prop) → World → Prop) (Ix : Code → List α → (Nat → Prop) → World → Prop) (hI : AbideW I) (hT : TurnW w.heap.size I) (hIx : ∀ c, AbideW (Ix c)) (hTx : ∀ c, TurnW w.heap.size (Ix c)) (h0 : I [] (fun _ => False) w) (a₁ : α → Nat → Act) (Pa : α → Nat → World → Prop) (hPa : ∀ x k W l o o', Pa x k W → W.heap[l]? = some o → o.isCells = false → Pa x k (W.putObj l o'))
    (hassign : ∀ (l : Nat) (x : α) (W : World) (k : Nat) (K : Act → World → Prop), W.heap.size = k → (∀ W', Ext (fun _ => False) W W' → Pa x k W' → K (a₁ x k) W') →
      assign.wpIn (F.inRound l) (n - 1 - 1) P (Exit.then K (fun _ _ _ => False)) { tmps := (ps.zip (encs x)).foldl (fun t (p, v) => t.setIfInBounds p v) a.tmps, defers := [] } W)
    (hbody : ∀ (l : Nat) (pre : List α) (x : α) (O : Nat → Prop) (W : World) (k : Nat), I pre O W → Nx pre x → (∀ k, O k → w.heap.size ≤ k ∧ k < W.heap.size) → Pa x k W → body.wpIn (F.inRound l) (n - 1 - 1) P (mutPost V O w.heap.size I Ix (pre ++ [x]) W) (a₁ x k) W)
    (hdone : ∀ (D : Nat) (xs : List α) (O : Nat → Prop) (W : World), w.heap.size ≤ D → S xs → I xs O W → ¬ O D → W.heap[D]? = some (.deferred (some [])) → Q .normal { a with defers := { target := .collected D, args := #[] } :: a.defers } W)
    (hstop : ∀ (D : Nat) (c : Code) (pre : List α) (O : Nat → Prop) (W : World), w.heap.size ≤ D → Sp pre → Ix c pre O W → ¬ O D → W.heap[D]? = some (.deferred (some [])) → c.wpIn F n P Q { a with defers := { target := .collected D, args := #[] } :: a.defers } W) :
    (Code.rangeFunc g ps assign body).wpIn F n P Q a w := by
  refine wpIn_rangeFunc (fun fn hfn => ?_)
  rw [hro]
  obtain ⟨D, hD⟩ : ∃ D, w.heap.size = D := ⟨_, rfl⟩
  obtain ⟨rc, hrc⟩ : ∃ rc : LoopState → Option Code → Loop, ∀ st pe, rc st pe = { state := st, pending := pe, fn, tmps := a.tmps, params := ps, assign, body, defers := D } := ⟨_, fun _ _ => rfl⟩
  obtain ⟨W1, hW1⟩ : ∃ W1, (w.alloc (.deferred (some []))).alloc (.loop (rc .ready none)) = W1 := ⟨_, rfl⟩
  have X1 : Ext (fun _ => False) w W1 := by rw [← hW1]; exact ((Ext.refl _ w).alloc _).alloc _
  have sz1 : W1.heap.size = D + 2 := by rw [← hW1, ← hD]; simp
  have hR1 : W1.heap[D + 1]? = some (.loop (rc .ready none)) := by
    rw [← hW1, ← hD]
    have := World.alloc_heap_new (w.alloc (.deferred (some []))) (.loop (rc .ready none))
    rwa [World.size_alloc] at this
  have hD1 : W1.heap[D]? = some (.deferred (some [])) := by
    rw [← hW1, ← hD]
    exact (Below.heap_alloc _ _ _ (by simp)).trans (World.alloc_heap_new w _)
  obtain ⟨J, hJd⟩ : ∃ J, J = WithRec D (.loop (rc .ready none)) I := ⟨_, rfl⟩
  obtain ⟨Jx, hJxd⟩ : ∃ Jx : List α → (Nat → Prop) → World → Prop, Jx = fun s O A => ∃ c, WithRec D (.loop (rc .done (some c))) (Ix c) s O A := ⟨_, rfl⟩
  have hJ : AbideW J := by rw [hJd]; exact WithRec.abide hI
  have hJx : AbideW Jx := by
    rw [hJxd]
    rintro s O O' A B ⟨c, h⟩ h1 h2 hx
    exact ⟨c, WithRec.abide (hIx c) s O O' A B h h1 h2 hx⟩
  have yieldAt : ∀ pre x O W, J pre O W → Nx pre x → (∀ k, O k → W1.heap.size ≤ k ∧ k < W.heap.size) → YieldAt F (n - 1 - 1) P (D + 1) (encs x) W fun e W' =>
      (e = .returned (.bool true) ∧ J (pre ++ [x]) O W' ∧ Ext (Free V O w.heap.size) W W') ∨ (e = .returned (.bool false) ∧ Jx (pre ++ [x]) O W') := by
    rw [hJd, hJxd]
    rintro pre x O W0 ⟨hi0, hr0, hd0, hO⟩ hnx hOW
    have hy := run_yield (P := P) (args := encs x) hr0 (by rw [hrc]; exact hps x)
    rw [hrc] at hy
    refine ⟨fn, _, assign, body, hy, roundIn_of_wpIn hfn (hassign _ x W0 _ _ rfl (fun W hxW hpa => ⟨_, run_beginRound (hxW.obj hr0 (fun h => h)) (by rw [hrc]), ?_⟩))⟩
    have hr := hxW.obj hr0 (fun h => h)
    have hd := hxW.obj hd0 (fun h => h)
    have hlt := blk_lt hr
    have hi : I pre O W := hI _ _ _ _ _ hi0 (fun _ h => h) (fun _ h => .inl h) (hxW.mono (fun _ h => h.elim))
    obtain ⟨W2, hW2⟩ : ∃ W2, W.putObj (D + 1) (.loop { rc .ready none with state := .busy }) = W2 := ⟨_, rfl⟩
    have hr2 : W2.heap[D + 1]? = some (.loop { rc .ready none with state := .busy }) := by rw [← hW2]; exact World.putObj_heap_same hlt
    have hd2 : W2.heap[D]? = some (.deferred (some [])) := by rw [← hW2]; exact (World.putObj_heap_other (by omega)).trans hd
    have nO : ¬ O (D + 1) := fun h => by have := hO _ h; omega
    have x2 : Ext (Free V O w.heap.size) W0 W2 := by rw [← hW2]; exact ext_putObj _ (hxW.mono (fun _ h => h.elim)) (fun _ => ⟨nO, .inl (by omega)⟩)
    have hi2 : I pre O W2 := by rw [← hW2]; exact hT _ _ _ _ _ _ hi (by omega) nO hr rfl
    have hpa2 : Pa x W0.heap.size W2 := by rw [← hW2]; exact hPa _ _ _ _ _ _ hpa hr rfl
    have hz2 : W0.heap.size ≤ W2.heap.size := x2.size
    rw [hW2]
    refine wpIn_mono (hbody _ pre x O W2 _ hi2 hnx (fun k hk => by have := hO k hk; have := (hOW k hk).2; omega) hpa2) ?_
    have fin : ∀ (jump : Option Code) (W3 : World), KeepsOthers W2 W3 → ∃ W4, W4 = W3.putObj (D + 1) (.loop (rc (if jump.isNone then .ready else .done) jump)) ∧ (Instr.endRound (D + 1) jump).run P W3 = .ok (.bool jump.isNone) W4 ∧
        W4.heap[D + 1]? = some (.loop (rc (if jump.isNone then .ready else .done) jump)) ∧ W4.heap[D]? = some (.deferred (some [])) ∧ ∃ o, W3.heap[D + 1]? = some o ∧ o.isCells = false := fun jump W3 hk => by
      have hr3 := hk.same _ _ hr2 rfl
      have hd3 := hk.same _ _ hd2 rfl
      have hend := run_endRound (P := P) jump hr3
      rw [hrc] at hend
      refine ⟨_, rfl, by rw [hrc]; exact hend, World.putObj_heap_same (blk_lt hr3), (World.putObj_heap_other (by omega)).trans hd3, _, hr3, rfl⟩
    rintro e a3 W3 hp
    cases e with
    | normal =>
      obtain ⟨hk, hx3, hi3⟩ := hp
      obtain ⟨W4, e4, hend, hr4, hd4, o, ho, hc⟩ := fin none W3 hk
      refine ⟨_, _, hend, .inl ⟨rfl, ⟨?_, hr4, hd4, hO⟩, ?_⟩⟩
      · rw [e4]; exact hT _ _ _ _ _ _ hi3 (by omega) nO ho hc
      · rw [e4]; exact ext_putObj _ (x2.trans hx3 (fun _ _ h => h)) (fun _ => ⟨nO, .inl (by omega)⟩)
    | ret =>
      obtain ⟨hk, hi3⟩ := hp
      obtain ⟨W4, e4, hend, hr4, hd4, o, ho, hc⟩ := fin (some .ret) W3 hk
      exact ⟨_, _, hend, .inr ⟨rfl, .ret, by rw [e4]; exact hTx _ _ _ _ _ _ _ hi3 (by omega) nO ho hc, hr4, hd4, hO⟩⟩
    | exit id =>
      obtain ⟨hk, hi3⟩ := hp
      obtain ⟨W4, e4, hend, hr4, hd4, o, ho, hc⟩ := fin (some (.exit id)) W3 hk
      exact ⟨_, _, hend, .inr ⟨rfl, .exit id, by rw [e4]; exact hTx _ _ _ _ _ _ _ hi3 (by omega) nO ho hc, hr4, hd4, hO⟩⟩
    | goto t =>
      obtain ⟨hk, hi3⟩ := hp
      obtain ⟨W4, e4, hend, hr4, hd4, o, ho, hc⟩ := fin (some (.goto t)) W3 hk
      exact ⟨_, _, hend, .inr ⟨rfl, .goto t, by rw [e4]; exact hTx _ _ _ _ _ _ _ hi3 (by omega) nO ho hc, hr4, hd4, hO⟩⟩
    | panic ch => exact hp.elim
    | outgrown => exact hp.elim
  have call := hseq (D + 1) J Jx W1 X1 hJ hJx yieldAt (by rw [hJd]; exact ⟨hI _ _ _ _ _ h0 (fun _ h => h) (fun _ h => h.elim) X1, hR1, hD1, fun _ h => h.elim⟩)
  rw [hJd, hJxd] at call
  refine ⟨D + 1, [{ target := .collected D, args := #[] }], W1, { target := .fn (.func gf) lb, args := #[.func (.yield (D + 1)) #[] #[]] }, W1, gf, #[.func (.yield (D + 1)) #[] #[]] ++ lb, W1, ?_, ?_, ?_, ?_, fun _ => h1, ?_⟩
  · rw [← hW1, hrc, ← hD]
    exact run_enterLoop_outer _ _ _ _ _
  · simp only [resolve, hg]
    simp [go_sem]
  · intro f' hf'
    simp [Target.leads] at hf'
    subst hf'
    exact hFg
  · simp [invoke, go_sem, eg]
  · refine call.mono ?_
    rintro e W2 ⟨⟨v, rfl⟩, (⟨xs, O, hS, _, hi, hr, hd, hO⟩ | ⟨pre, O, hS, _, c, hi, hr, hd, hO⟩)⟩
    · have nO : ¬ O (D + 1) := fun h => by have := hO _ h; omega
      have hend := run_endLoop (P := P) hr (by rw [hrc]; simp)
      rw [hrc] at hend
      exact ⟨none, _, hend, hdone D xs O _ (by omega) hS (hT _ _ _ _ _ _ hi (by omega) nO hr rfl) (fun h => by have := hO _ h; omega) ((World.putObj_heap_other (by omega)).trans hd)⟩
    · have nO : ¬ O (D + 1) := fun h => by have := hO _ h; omega
      have hend := run_endLoop (P := P) hr (by rw [hrc]; simp)
      rw [hrc] at hend
      exact ⟨some c, _, hend, hstop D c pre O _ (by omega) hS (hTx _ _ _ _ _ _ _ hi (by omega) nO hr rfl) (fun h => by have := hO _ h; omega) ((World.putObj_heap_other (by omega)).trans hd)⟩
end Go.Proofs.YtigpaaelggnffaaGreatDoor.Lib

/- A slice of one-cell elements at an offset in memory of the call's own, said by its cells: what is left of a row whose beginning was cut off. -/
namespace Go.Proofs.YtigpaaelggnffaaGreatDoor.Lib
open Go.RowKit
set_option linter.unusedVariables false
set_option linter.unusedSimpArgs false

structure Win (w : World) (p : Option Addr) (n c : Nat) (cs : List Value) : Prop where
  len : cs.length = n
  le : n ≤ c
  cap : c ≤ maxLen
  at_ : (p = none ∧ c = 0) ∨ ∃ g off, p = some ⟨g, off, none⟩ ∧ g < w.heap.size ∧ (∀ i v, cs[i]? = some v → w.cell? ⟨g, off + i, none⟩ = some v) ∧ ∀ i, i < c → (w.cell? ⟨g, off + i, none⟩).isSome = true ∧ w.frozen? ⟨g, off + i, none⟩ = false
theorem Win.nil (w : World) : Win w none 0 0 [] := ⟨rfl, Nat.le_refl _, Nat.zero_le _, .inl ⟨rfl, rfl⟩⟩
theorem Win.tail {w : World} {p : Option Addr} {n c : Nat} {v : Value} {cs : List Value} (h : Win w p (n + 1) c (v :: cs)) : ∃ g off, p = some ⟨g, off, none⟩ ∧ Win w (some ⟨g, off + 1, none⟩) n (c - 1) cs := by
  have hl := h.len
  have hc := h.le
  rcases h.at_ with ⟨_, h0⟩ | ⟨g, off, rfl, hg, h1, h2⟩
  · omega
  · refine ⟨g, off, rfl, by simpa using hl, by omega, by have := h.cap; omega, .inr ⟨g, off + 1, rfl, hg, fun i v hi => ?_, fun i hi => ?_⟩⟩
    · have := h1 (i + 1) v (by simpa using hi)
      rwa [show off + (i + 1) = off + 1 + i by omega] at this
    · have := h2 (i + 1) (by omega)
      rwa [show off + (i + 1) = off + 1 + i by omega] at this
theorem Win.on {w w' : World} {p : Option Addr} {n c : Nat} {cs : List Value} {S : Nat → Prop} (h : Win w p n c cs) (hx : Ext S w w') (hn : ∀ k, blkOf p = some k → ¬ S k) : Win w' p n c cs := by
  refine ⟨h.len, h.le, h.cap, ?_⟩
  rcases h.at_ with h0 | ⟨g, off, rfl, hg, h1, h2⟩
  · exact .inl h0
  · have hb := hx.block g hg (hn g rfl)
    refine .inr ⟨g, off, rfl, Nat.lt_of_lt_of_le hg hx.size, fun i v hi => (hx.cell (p := ⟨g, off + i, none⟩) hg (hn g rfl)).trans (h1 i v hi), fun i hi => ⟨by rw [hx.cell (p := ⟨g, off + i, none⟩) hg (hn g rfl)]; exact (h2 i hi).1, ?_⟩⟩
    have h3 := (h2 i hi).2
    unfold World.frozen? at h3 ⊢
    simpa [hb] using h3
theorem arr_win {w : World} {e : Nat} {p : Option Addr} {n c : Nat} {cs : List Value} (h : Arr w e 1 p n c cs) : Win w p n c cs := by
  have hl := arr_len h
  have hc := arr_cap h
  refine ⟨by omega, hc.1, hc.2, ?_⟩
  rcases h.2 with ⟨hv, h0⟩ | ⟨g, cap, cur, hv, _, hg, h1, h2, h3, h4⟩
  · injection hv with e1 e2 e3
    exact .inl ⟨e1, e3⟩
  · injection hv with e1 e2 e3
    subst e1 e3
    have hcur : ∀ i, w.cell? ⟨g, 0 + i, none⟩ = cur[i]? := fun i => by rw [Nat.zero_add]; exact blk_cell hg i
    refine .inr ⟨g, 0, rfl, blk_lt hg, fun i v hi => ?_, fun i hi => ⟨?_, ?_⟩⟩
    · rw [hcur, ← Array.getElem?_toList]
      rw [← h4, List.getElem?_take] at hi
      split at hi
      · exact hi
      · cases hi
    · rw [hcur, Array.getElem?_eq_getElem (by omega)]; rfl
    · rw [Nat.zero_add]; exact blk_frozen hg i
/-- Of one more. -/
theorem run_win_append {P : Program} {W : World} (t ty e bytes : Nat) (z : Value) (ht : P.underlying t = some (.slice e)) (hinfo : (P.info? e).map (fun i => (i.zero, i.size, i.bytes)) = some (some z, 1, bytes)) (hz : z.cells.size = 1) (hb0 : 0 < bytes)
    {p : Option Addr} {n c : Nat} {cs : List Value} (h : Win W p n c cs) (ad : Addr) (mc : Nat) (v : Value) (hv : W.cell? ad = some v) (h1 : v.oneCell' = true) (hl : (n + 1) * bytes ≤ 140737488355328) :
    ∃ p1 c1 w1, (Builtin.append_ #[t, t] ty #[.slice p n c, .slice (some ad) 1 mc]).run P W = .ok (.slice p1 (n + 1) c1) w1 ∧ Win w1 p1 (n + 1) c1 (cs ++ [v]) ∧ Ext (fun k => blkOf p = some k) W w1 ∧ Moved W p p1 := by
  have hnews : ∀ ad', some ad = some ad' → ∀ j u, [v][j]? = some u → W.cell? (ad'.add j) = some u := by
    intro ad' e' j u hu
    injection e' with e'
    subst e'
    cases j with
    | zero =>
      simp at hu
      subst hu
      simpa [Addr.add] using hv
    | succ j => simp at hu
  have hln := h.len
  have hle := h.le
  rcases h.at_ with ⟨rfl, h0⟩ | ⟨g, off, rfl, hg, hc1, hc2⟩
  · obtain rfl : n = 0 := by omega
    subst h0
    obtain rfl : cs = [] := List.eq_nil_of_length_eq_zero hln
    obtain ⟨p1, c1, w1, hr, hA, hx, hm⟩ := run_arr_append (P := P) t ty e 1 bytes z ht hinfo hz (by decide) hb0 none 0 0 [] (arr_nil _ _ _) (some ad) 1 mc [v] rfl hnews (fun h => by cases h) (fun u hu => by simp at hu; subst hu; exact h1) hl
    exact ⟨p1, c1, w1, hr, arr_win hA, hx, hm⟩
  · obtain ⟨i0, hi, hzz⟩ := Option.map_eq_some_iff.1 hinfo
    simp only [Prod.mk.injEq] at hzz
    obtain ⟨hz0, hz1, hz2⟩ := hzz
    by_cases hroom : n + 1 ≤ c
    · have hr := run_append_room_cells (P := P) W t ty e i0 ht hi g off n c ad 1 mc [v] (by simp [hz1]) (hnews ad rfl) (fun u hu => by simp at hu; subst hu; exact h1) hroom
        (fun j hj => by
          simp at hj
          subst hj
          rw [hz1, Nat.mul_one]
          exact (hc2 n (by omega)).1)
        (fun j hj => by
          simp at hj
          subst hj
          rw [hz1, Nat.mul_one]
          exact (hc2 n (by omega)).2)
      rw [hz1, Nat.mul_one] at hr
      have hs : W.setCells g (off + n) [v] = W.setCell ⟨g, off + n, none⟩ v := rfl
      rw [hs] at hr
      have hx : Ext (fun k => blkOf (some (⟨g, off, none⟩ : Addr)) = some k) W (W.setCell ⟨g, off + n, none⟩ v) := (Ext.refl (fun k => blkOf (some (⟨g, off, none⟩ : Addr)) = some k) W).setCell (p := ⟨g, off + n, none⟩) (fun _ => rfl) _
      have hout : ∀ i, i ≠ n → (W.setCell ⟨g, off + n, none⟩ v).cell? ⟨g, off + i, none⟩ = W.cell? ⟨g, off + i, none⟩ := fun i hi => by
        rw [← hs]
        exact World.cell?_setCells_out g [v] (off + n) W ⟨g, off + i, none⟩ (fun _ _ => by simp; omega)
      have hin : (W.setCell ⟨g, off + n, none⟩ v).cell? ⟨g, off + n, none⟩ = some v := by
        have := World.cell?_setCells_in g [v] (off + n) W (fun j hj => by simp at hj; subst hj; exact (hc2 n (by omega)).1) 0 (by simp)
        rw [hs] at this
        simpa using this
      have hfz : ∀ i, (W.setCell ⟨g, off + n, none⟩ v).frozen? ⟨g, off + i, none⟩ = W.frozen? ⟨g, off + i, none⟩ := fun i => by
        rw [← hs]
        exact World.frozen?_setCells g [v] (off + n) W _
      refine ⟨_, _, _, hr, ⟨by simp [hln], hroom, h.cap, .inr ⟨g, off, rfl, Nat.lt_of_lt_of_le hg hx.size, fun i u hi => ?_, fun i hi => ⟨?_, by rw [hfz]; exact (hc2 i hi).2⟩⟩⟩, hx, Moved.refl _ _⟩
      · by_cases hin2 : i = n
        · subst hin2
          rw [hin]
          rw [List.getElem?_append_right (by omega), hln, Nat.sub_self] at hi
          exact hi
        · rw [hout i hin2]
          refine hc1 i u ?_
          have hlt := (List.getElem?_eq_some_iff.1 hi).1
          simp at hlt
          rwa [List.getElem?_append_left (by omega)] at hi
      · by_cases hin2 : i = n
        · subst hin2; rw [hin]; rfl
        · rw [hout i hin2]; exact (hc2 i hi).1
    · obtain ⟨v', w', hr, hown, hgr⟩ := run_append_arg_grows (P := P) W t ty e i0 z 1 bytes ht hi hz0 hz1 hz2 hz (by decide) ⟨g, off, none⟩ n c cs (by omega) (fun j u hu => by
          unfold Addr.add
          split
          · subst_vars; simpa using hc1 0 u hu
          · exact hc1 j u hu) ad 1 mc [v] rfl (hnews ad rfl) (by omega) (by have := Nat.le_trans (Nat.le_mul_of_pos_right (n + 1) hb0) hl; unfold maxLen; omega) hl
      rcases hown.2 with ⟨hv', h0⟩ | ⟨g', cap, cur, hv', hb, rest⟩
      · omega
      · subst hv'
        refine ⟨some ⟨g', 0, none⟩, cap, w', hr, arr_win (e := e) ⟨hown.1, .inr ⟨g', cap, cur, rfl, Nat.zero_le _, rest⟩⟩, (Ext.refl _ W).grown hgr (fun k hk _ => by cases hk), fun k hk => .inr ?_⟩
        have e1 : g' = k := Option.some.inj hk
        omega
section
variable {P : Program} {ops : Array Oper} {o : Oper} {a : Act} {Q : Exit → Act → World → Prop}
/-- As a step of a region that draws. -/
theorem win_append_step {W : World} {K : Act → World → Prop} {X : Prop} {N : Option Tmp} (hN : o.dst = N) (hw : Region.wanted o (yielded ops a.tmps) = true) (s x : Operand) (t e bytes : Nat) (z : Value)
    (ho : o.op = .call { callee := .builtin .append, args := #[s, x], argTypes := #[t, t] })
    (ht : P.underlying t = some (.slice e)) (hinfo : (P.info? e).map (fun i => (i.zero, i.size, i.bytes)) = some (some z, 1, bytes)) (hz : z.cells.size = 1) (hb0 : 0 < bytes)
    (p : Option Addr) (n c : Nat) (cs : List Value) (hs : a.eval s = .slice p n c) (ad : Addr) (mc : Nat) (hx : a.eval x = .slice (some ad) 1 mc) (v : Value) (hv : W.cell? ad = some v) (h1 : v.oneCell' = true) (HO : Win W p n c cs) (hl : (n + 1) * bytes ≤ 140737488355328)
    (h : ∀ p1 c1 w1, Win w1 p1 (n + 1) c1 (cs ++ [v]) → Ext (fun k => blkOf p = some k) W w1 → Moved W p p1 → K (a.put N (.slice p1 (n + 1) c1)) w1) :
    if Region.wanted o (yielded ops a.tmps) = true then Oper.wp P o a W K Q else X := by
  subst hN
  rw [if_pos hw]
  obtain ⟨p1, c1, w1, hr, hA, hx1, hm1⟩ := run_win_append (P := P) t o.type e bytes z ht hinfo hz hb0 HO ad mc v hv h1 hl
  unfold Oper.wp execOp
  simp only [ho, resolve, invoke, builtin, Sem.run_bind, Sem.run_pure, Result.andThen_ok, List.map_toArray, List.map_cons, List.map_nil, hs, hx, hr]
  exact h p1 c1 w1 hA hx1 hm1
/-- append of a slice as a step of a region that draws, its slot named. -/
theorem arr_append_stepN {W : World} {K : Act → World → Prop} {X : Prop} {N : Option Tmp} (hN : o.dst = N) (hw : Region.wanted o (yielded ops a.tmps) = true) (s x : Operand) (t e sz bytes : Nat) (z : Value)
    (ho : o.op = .call { callee := .builtin .append, args := #[s, x], argTypes := #[t, t] })
    (ht : P.underlying t = some (.slice e)) (hinfo : (P.info? e).map (fun i => (i.zero, i.size, i.bytes)) = some (some z, sz, bytes)) (hz : z.cells.size = sz) (hsz : 0 < sz) (hb0 : 0 < bytes)
    (p : Option Addr) (n c : Nat) (cs : List Value) (hs : a.eval s = .slice p n c) (q : Option Addr) (m mc : Nat) (hx : a.eval x = .slice q m mc) (news : List Value) (hnl : news.length = m * sz) (hnews : ∀ ad, q = some ad → ∀ j u, news[j]? = some u → W.cell? (ad.add j) = some u) (h0 : q = none → m = 0) (h1 : ∀ u ∈ news, u.oneCell' = true)
    (HO : Arr W e sz p n c cs) (hl : (n + m) * bytes ≤ 140737488355328)
    (h : ∀ p1 c1 w1, Arr w1 e sz p1 (n + m) c1 (cs ++ news) → Ext (fun k => blkOf p = some k) W w1 → Moved W p p1 → K (a.put N (.slice p1 (n + m) c1)) w1) :
    if Region.wanted o (yielded ops a.tmps) = true then Oper.wp P o a W K Q else X := by
  subst hN
  exact arr_append_step hw s x t e sz bytes z ho ht hinfo hz hsz hb0 p n c cs hs q m mc hx news hnl hnews h0 h1 HO hl h
/-- In a region that does not draw. -/
theorem win_append {W : World} {rest : List Oper} (hgd : o.guard = none) (s x : Operand) (t e bytes : Nat) (z : Value)
    (ho : o.op = .call { callee := .builtin .append, args := #[s, x], argTypes := #[t, t] })
    (ht : P.underlying t = some (.slice e)) (hinfo : (P.info? e).map (fun i => (i.zero, i.size, i.bytes)) = some (some z, 1, bytes)) (hz : z.cells.size = 1) (hb0 : 0 < bytes)
    (p : Option Addr) (n c : Nat) (cs : List Value) (hs : a.eval s = .slice p n c) (ad : Addr) (mc : Nat) (hx : a.eval x = .slice (some ad) 1 mc) (v : Value) (hv : W.cell? ad = some v) (h1 : v.oneCell' = true) (HO : Win W p n c cs) (hl : (n + 1) * bytes ≤ 140737488355328)
    (h : ∀ p1 c1 w1, Win w1 p1 (n + 1) c1 (cs ++ [v]) → Ext (fun k => blkOf p = some k) W w1 → Moved W p p1 → wpList P ops Q rest (a.put o.dst (.slice p1 (n + 1) c1)) w1) : wpList P ops Q (o :: rest) a W := by
  refine wpList_plain hgd fun K hK => ?_
  obtain ⟨p1, c1, w1, hr, hA, hx1, hm1⟩ := run_win_append (P := P) t o.type e bytes z ht hinfo hz hb0 HO ad mc v hv h1 hl
  unfold Oper.wp execOp
  simp only [ho, resolve, invoke, builtin, Sem.run_bind, Sem.run_pure, Result.andThen_ok, List.map_toArray, List.map_cons, List.map_nil, hs, hx, hr]
  exact hK _ _ (h p1 c1 w1 hA hx1 hm1)
end
end Go.Proofs.YtigpaaelggnffaaGreatDoor.Lib

/- Small words on ids: what an id's word tells; numbers that came in. -/
namespace Go.Proofs.YtigpaaelggnffaaGreatDoor.Bpe
open Go.RowKit Go.Proofs.YtigpaaelggnffaaGreatDoor.Lib Go.Proofs.YtigpaaelggnffaaGreatDoor.Sl
set_option linter.unusedVariables false
set_option linter.unusedSimpArgs false

theorem rd_came {w : World} {p : Option Addr} {len : Nat} {ys : Nat → Int} (h : RowK.CameInts .i64 w p len ys) : Rd eI w p ((List.range len).map ys) := by
  intro i x hi
  rw [List.getElem?_map] at hi
  by_cases hl : i < len
  · rw [List.getElem?_range hl] at hi
    injection hi with hi
    obtain ⟨b, o, hp, hb, hc⟩ := h i hl
    refine ⟨b, o, hp, hb, fun j hj => ?_⟩
    have : j = 0 := by have : eI.sz = 1 := rfl; omega
    subst this
    show w.cell? ⟨b, o + i * 1 + 0, none⟩ = some (.int .i64 x)
    rw [Nat.mul_one, Nat.add_zero, hc, hi]
  · rw [List.getElem?_eq_none (by rw [List.length_range]; omega)] at hi
    cases hi
theorem came_list {w : World} {p : Option Addr} {len : Nat} {ys : Nat → Int} (hC : RowK.CameInts .i64 w p len ys) (hwf : ∀ i, i < len → (Lit.int .i64 (ys i)).wf = true) : ∃ xs : List Int, xs.length = len ∧ Rd eI w p xs ∧ ∀ x ∈ xs, (Lit.int .i64 x).wf = true :=
  ⟨(List.range len).map ys, by simp, rd_came hC, fun x hx => by
    rw [List.mem_map] at hx
    obtain ⟨i, hi, rfl⟩ := hx
    exact hwf i (List.mem_range.1 hi)⟩
theorem word_ok {d : Dat} (hd : RightD d) (id : Int) : (wordOf d.ws id).2 = okId d id := by
  have hl := hd.len
  unfold wordOf okId
  by_cases h0 : id < 0
  · rw [if_pos h0, decide_eq_false (show ¬ 0 ≤ id by omega)]; rfl
  by_cases h1 : 256 + (d.ws.length : Int) ≤ id
  · rw [if_neg h0, if_pos h1, decide_eq_false (show ¬ id < 256 + (d.ms.length : Int) by omega), Bool.and_false]
  rw [if_neg h0, if_neg h1, decide_eq_true (show 0 ≤ id by omega), decide_eq_true (show id < 256 + (d.ms.length : Int) by omega)]
  split <;> rfl
end Go.Proofs.YtigpaaelggnffaaGreatDoor.Bpe

/- (*model.Model).Word of a right model. -/
namespace Go.Proofs.YtigpaaelggnffaaGreatDoor.Bpe
open Go.RowKit Go.Proofs.YtigpaaelggnffaaGreatDoor.Lib Go.Proofs.YtigpaaelggnffaaGreatDoor.Sl
set_option linter.unusedVariables false
set_option linter.unusedSimpArgs false

theorem wordI_any {w : World} {a : Nat} {d : Dat} (h : IsModel w a d) (hd : RightD d) (id : Int) :
    Calls Tryz.prog 38 #[.pointer (some ⟨a, 0, none⟩), .int .i64 id] w fun e w' => e = .returned (.tuple #[.string (wordOf d.ws id).1, .bool (okId d id)]) ∧ Ext (fun _ => False) w w' := by
  obtain ⟨L, tp, mp, q0, q1, q2, d0, d1, d2, hM⟩ := h
  have := word_any w a L.p0 L.c0 d.ws id hM.blk.c0 hM.rd.r0 (by have := hM.rd.b0; omega)
  rwa [word_ok hd] at this
end Go.Proofs.YtigpaaelggnffaaGreatDoor.Bpe

/- tesserabook.Within of 0 and up. -/
namespace Go.Proofs.YtigpaaelggnffaaGreatDoor.Wi
open Go.Proofs.YtigpaaelggnffaaGreatDoor.Lib Go.Proofs.YtigpaaelggnffaaGreatDoor.Sl
open Go.RowKit
set_option linter.unusedVariables false
set_option linter.unusedSimpArgs false

theorem inI_wf {n : Int} (h : (Lit.int .i64 n).wf = true) : inI n := by
  unfold inI
  simp [Lit.wf, IntKind.min, IntKind.max, IntKind.signed, IntKind.bits] at h
  omega
def WithinEnd (w : World) (n : Int) (e : Ending) (w' : World) : Prop := ∃ r : Int, e = .returned (.int .i64 r) ∧ 0 ≤ r ∧ r ≤ n ∧ w = w'
theorem within0_any (w : World) (k : Int) (n : Int) (hk : inI k) (h0 : 0 ≤ n) (hn : n ≤ 1000000) :
    Calls Tryz.prog 18 #[.int .i64 k, .int .i64 0, .int .i64 n] w fun e w' => WithinEnd w n e w' := by
  obtain ⟨k0, k1⟩ := hk
  by_cases h : 0 ≤ k
  · have h1 := Int.emod_nonneg k (show n + 1 ≠ 0 by omega)
    have h2 := Int.emod_lt_of_pos k (show (0 : Int) < n + 1 by omega)
    go_enter Tryz.func18, Tryz.ntmps18
    go_wp2_with fail
    go_ret
    exact ⟨k % (n + 1), ret_int (by omega), h1, by omega, rfl⟩
  · have h1 := Int.tmod_lt_of_pos k (show (0 : Int) < n + 1 by omega)
    have h2 := Int.lt_tmod_of_pos k (show (0 : Int) < n + 1 by omega)
    obtain ⟨r, hr⟩ : ∃ r, k.tmod (n + 1) = r := ⟨_, rfl⟩
    rw [hr] at h1 h2
    by_cases hz : r < 0
    · go_enter Tryz.func18, Tryz.ntmps18
      go_wp2_with fail
      go_ret
      exact ⟨r + n + 1, ret_int (by omega), by omega, by omega, rfl⟩
    · go_enter Tryz.func18, Tryz.ntmps18
      go_wp2_with fail
      go_ret
      exact ⟨r, ret_int (by omega), by omega, by omega, rfl⟩

end Go.Proofs.YtigpaaelggnffaaGreatDoor.Wi

/- tesserabook.Within of any bounds. -/
namespace Go.Proofs.YtigpaaelggnffaaGreatDoor.Wi
open Go.Proofs.YtigpaaelggnffaaGreatDoor.Lib Go.Proofs.YtigpaaelggnffaaGreatDoor.Sl
open Go.RowKit
set_option linter.unusedVariables false
set_option linter.unusedSimpArgs false

def WithinEndL (w : World) (l n : Int) (e : Ending) (w' : World) : Prop := ∃ r : Int, e = .returned (.int .i64 r) ∧ l ≤ r ∧ r ≤ n ∧ w = w'
theorem within_any (w : World) (k l n : Int) (hk : inI k) (h0 : 0 ≤ l) (hl : l ≤ n) (hn : n ≤ 1000000) :
    Calls Tryz.prog 18 #[.int .i64 k, .int .i64 l, .int .i64 n] w fun e w' => WithinEndL w l n e w' := by
  obtain ⟨k0, k1⟩ := hk
  by_cases h : 0 ≤ k
  · have h1 := Int.emod_nonneg k (show n - l + 1 ≠ 0 by omega)
    have h2 := Int.emod_lt_of_pos k (show (0 : Int) < n - l + 1 by omega)
    obtain ⟨r, hr⟩ : ∃ r, k % (n - l + 1) = r := ⟨_, rfl⟩
    rw [hr] at h1 h2
    go_enter Tryz.func18, Tryz.ntmps18
    go_wp2_with fail
    go_ret
    exact ⟨l + r, ret_int (by omega), by omega, by omega, rfl⟩
  · have h1 := Int.tmod_lt_of_pos k (show (0 : Int) < n - l + 1 by omega)
    have h2 := Int.lt_tmod_of_pos k (show (0 : Int) < n - l + 1 by omega)
    obtain ⟨r, hr⟩ : ∃ r, k.tmod (n - l + 1) = r := ⟨_, rfl⟩
    rw [hr] at h1 h2
    by_cases hz : r < 0
    · go_enter Tryz.func18, Tryz.ntmps18
      go_wp2_with fail
      go_ret
      exact ⟨l + (r + n - l + 1), ret_int (by omega), by omega, by omega, rfl⟩
    · go_enter Tryz.func18, Tryz.ntmps18
      go_wp2_with fail
      go_ret
      exact ⟨l + r, ret_int (by omega), by omega, by omega, rfl⟩
end Go.Proofs.YtigpaaelggnffaaGreatDoor.Wi
