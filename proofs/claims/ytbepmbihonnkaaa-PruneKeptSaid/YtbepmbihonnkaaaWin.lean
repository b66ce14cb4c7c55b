/- A slice of one-cell elements at an offset in memory of the call's own, said by its cells: what is left of a row whose beginning was cut off. -/
import Derived.Test.YtbepmbihonnkaaaLib2
import Derived.ArgAppend
import Derived.Deep.Upon
namespace Go.Proofs.Ytbepmbihonnkaaa.Lib
open Go.RowKit
set_option linter.unusedVariables false
set_option linter.unusedSimpArgs false

structure Win (w : World) (p : Option Addr) (n c : Nat) (cs : List Value) : Prop where
  len : cs.length = n
  le : n ≤ c
  cap : c ≤ maxLen
  at_ : (p = none ∧ c = 0) ∨ ∃ g off, p = some ⟨g, off, none⟩ ∧ g < w.heap.size ∧ (∀ i v, cs[i]? = some v → w.cell? ⟨g, off + i, none⟩ = some v) ∧ ∀ i, i < c → (w.cell? ⟨g, off + i, none⟩).isSome = true ∧ w.frozen? ⟨g, off + i, none⟩ = false
theorem Win.nil (w : World) : Win w none 0 0 [] := ⟨rfl, Nat.le_refl _, Nat.zero_le _, .inl ⟨rfl, rfl⟩⟩
theorem Win.tail {w : World} {p : Option Addr} {n c : Nat} {v : Value} {cs : List Value} (h : Win w p (n + 1) c (v :: cs)) : ∃ g off, p = some ⟨g, off, none⟩ ∧ Win w (some ⟨g, off + 1, none⟩) n (c - 1) cs := by
  have hl := h.len
  have hc := h.le
  rcases h.at_ with ⟨_, h0⟩ | ⟨g, off, rfl, hg, h1, h2⟩
  · omega
  · refine ⟨g, off, rfl, by simpa using hl, by omega, by have := h.cap; omega, .inr ⟨g, off + 1, rfl, hg, fun i v hi => ?_, fun i hi => ?_⟩⟩
    · have := h1 (i + 1) v (by simpa using hi)
      rwa [show off + (i + 1) = off + 1 + i by omega] at this
    · have := h2 (i + 1) (by omega)
      rwa [show off + (i + 1) = off + 1 + i by omega] at this
theorem Win.on {w w' : World} {p : Option Addr} {n c : Nat} {cs : List Value} {S : Nat → Prop} (h : Win w p n c cs) (hx : Ext S w w') (hn : ∀ k, blkOf p = some k → ¬ S k) : Win w' p n c cs := by
  refine ⟨h.len, h.le, h.cap, ?_⟩
  rcases h.at_ with h0 | ⟨g, off, rfl, hg, h1, h2⟩
  · exact .inl h0
  · have hb := hx.block g hg (hn g rfl)
    refine .inr ⟨g, off, rfl, Nat.lt_of_lt_of_le hg hx.size, fun i v hi => (hx.cell (p := ⟨g, off + i, none⟩) hg (hn g rfl)).trans (h1 i v hi), fun i hi => ⟨by rw [hx.cell (p := ⟨g, off + i, none⟩) hg (hn g rfl)]; exact (h2 i hi).1, ?_⟩⟩
    have h3 := (h2 i hi).2
    unfold World.frozen? at h3 ⊢
    simpa [hb] using h3
theorem arr_win {w : World} {e : Nat} {p : Option Addr} {n c : Nat} {cs : List Value} (h : Arr w e 1 p n c cs) : Win w p n c cs := by
  have hl := arr_len h
  have hc := arr_cap h
  refine ⟨by omega, hc.1, hc.2, ?_⟩
  rcases h.2 with ⟨hv, h0⟩ | ⟨g, cap, cur, hv, _, hg, h1, h2, h3, h4⟩
  · injection hv with e1 e2 e3
    exact .inl ⟨e1, e3⟩
  · injection hv with e1 e2 e3
    subst e1 e3
    have hcur : ∀ i, w.cell? ⟨g, 0 + i, none⟩ = cur[i]? := fun i => by rw [Nat.zero_add]; exact blk_cell hg i
    refine .inr ⟨g, 0, rfl, blk_lt hg, fun i v hi => ?_, fun i hi => ⟨?_, ?_⟩⟩
    · rw [hcur, ← Array.getElem?_toList]
      rw [← h4, List.getElem?_take] at hi
      split at hi
      · exact hi
      · cases hi
    · rw [hcur, Array.getElem?_eq_getElem (by omega)]; rfl
    · rw [Nat.zero_add]; exact blk_frozen hg i
/-- Of one more. -/
theorem run_win_append {P : Program} {W : World} (t ty e bytes : Nat) (z : Value) (ht : P.underlying t = some (.slice e)) (hinfo : (P.info? e).map (fun i => (i.zero, i.size, i.bytes)) = some (some z, 1, bytes)) (hz : z.cells.size = 1) (hb0 : 0 < bytes)
    {p : Option Addr} {n c : Nat} {cs : List Value} (h : Win W p n c cs) (ad : Addr) (mc : Nat) (v : Value) (hv : W.cell? ad = some v) (h1 : v.oneCell' = true) (hl : (n + 1) * bytes ≤ 140737488355328) :
    ∃ p1 c1 w1, (Builtin.append_ #[t, t] ty #[.slice p n c, .slice (some ad) 1 mc]).run P W = .ok (.slice p1 (n + 1) c1) w1 ∧ Win w1 p1 (n + 1) c1 (cs ++ [v]) ∧ Ext (fun k => blkOf p = some k) W w1 ∧ Moved W p p1 := by
  have hnews : ∀ ad', some ad = some ad' → ∀ j u, [v][j]? = some u → W.cell? (ad'.add j) = some u := by
    intro ad' e' j u hu
    injection e' with e'
    subst e'
    cases j with
    | zero =>
      simp at hu
      subst hu
      simpa [Addr.add] using hv
    | succ j => simp at hu
  have hln := h.len
  have hle := h.le
  rcases h.at_ with ⟨rfl, h0⟩ | ⟨g, off, rfl, hg, hc1, hc2⟩
  · obtain rfl : n = 0 := by omega
    subst h0
    obtain rfl : cs = [] := List.eq_nil_of_length_eq_zero hln
    obtain ⟨p1, c1, w1, hr, hA, hx, hm⟩ := run_arr_append (P := P) t ty e 1 bytes z ht hinfo hz (by decide) hb0 none 0 0 [] (arr_nil _ _ _) (some ad) 1 mc [v] rfl hnews (fun h => by cases h) (fun u hu => by simp at hu; subst hu; exact h1) hl
    exact ⟨p1, c1, w1, hr, arr_win hA, hx, hm⟩
  · obtain ⟨i0, hi, hzz⟩ := Option.map_eq_some_iff.1 hinfo
    simp only [Prod.mk.injEq] at hzz
    obtain ⟨hz0, hz1, hz2⟩ := hzz
    by_cases hroom : n + 1 ≤ c
    · have hr := run_append_room_cells (P := P) W t ty e i0 ht hi g off n c ad 1 mc [v] (by simp [hz1]) (hnews ad rfl) (fun u hu => by simp at hu; subst hu; exact h1) hroom
        (fun j hj => by
          simp at hj
          subst hj
          rw [hz1, Nat.mul_one]
          exact (hc2 n (by omega)).1)
        (fun j hj => by
          simp at hj
          subst hj
          rw [hz1, Nat.mul_one]
          exact (hc2 n (by omega)).2)
      rw [hz1, Nat.mul_one] at hr
      have hs : W.setCells g (off + n) [v] = W.setCell ⟨g, off + n, none⟩ v := rfl
      rw [hs] at hr
      have hx : Ext (fun k => blkOf (some (⟨g, off, none⟩ : Addr)) = some k) W (W.setCell ⟨g, off + n, none⟩ v) := (Ext.refl (fun k => blkOf (some (⟨g, off, none⟩ : Addr)) = some k) W).setCell (p := ⟨g, off + n, none⟩) (fun _ => rfl) _
      have hout : ∀ i, i ≠ n → (W.setCell ⟨g, off + n, none⟩ v).cell? ⟨g, off + i, none⟩ = W.cell? ⟨g, off + i, none⟩ := fun i hi => by
        rw [← hs]
        exact World.cell?_setCells_out g [v] (off + n) W ⟨g, off + i, none⟩ (fun _ _ => by simp; omega)
      have hin : (W.setCell ⟨g, off + n, none⟩ v).cell? ⟨g, off + n, none⟩ = some v := by
        have := World.cell?_setCells_in g [v] (off + n) W (fun j hj => by simp at hj; subst hj; exact (hc2 n (by omega)).1) 0 (by simp)
        rw [hs] at this
        simpa using this
      have hfz : ∀ i, (W.setCell ⟨g, off + n, none⟩ v).frozen? ⟨g, off + i, none⟩ = W.frozen? ⟨g, off + i, none⟩ := fun i => by
        rw [← hs]
        exact World.frozen?_setCells g [v] (off + n) W _
      refine ⟨_, _, _, hr, ⟨by simp [hln], hroom, h.cap, .inr ⟨g, off, rfl, Nat.lt_of_lt_of_le hg hx.size, fun i u hi => ?_, fun i hi => ⟨?_, by rw [hfz]; exact (hc2 i hi).2⟩⟩⟩, hx, Moved.refl _ _⟩
      · by_cases hin2 : i = n
        · subst hin2
          rw [hin]
          rw [List.getElem?_append_right (by omega), hln, Nat.sub_self] at hi
          exact hi
        · rw [hout i hin2]
          refine hc1 i u ?_
          have hlt := (List.getElem?_eq_some_iff.1 hi).1
          simp at hlt
          rwa [List.getElem?_append_left (by omega)] at hi
      · by_cases hin2 : i = n
        · subst hin2; rw [hin]; rfl
        · rw [hout i hin2]; exact (hc2 i hi).1
    · obtain ⟨v', w', hr, hown, hgr⟩ := run_append_arg_grows (P := P) W t ty e i0 z 1 bytes ht hi hz0 hz1 hz2 hz (by decide) ⟨g, off, none⟩ n c cs (by omega) (fun j u hu => by
          unfold Addr.add
          split
          · subst_vars; simpa using hc1 0 u hu
          · exact hc1 j u hu) ad 1 mc [v] rfl (hnews ad rfl) (by omega) (by have := Nat.le_trans (Nat.le_mul_of_pos_right (n + 1) hb0) hl; unfold maxLen; omega) hl
      rcases hown.2 with ⟨hv', h0⟩ | ⟨g', cap, cur, hv', hb, rest⟩
      · omega
      · subst hv'
        refine ⟨some ⟨g', 0, none⟩, cap, w', hr, arr_win (e := e) ⟨hown.1, .inr ⟨g', cap, cur, rfl, Nat.zero_le _, rest⟩⟩, (Ext.refl _ W).grown hgr (fun k hk _ => by cases hk), fun k hk => .inr ?_⟩
        have e1 : g' = k := Option.some.inj hk
        omega
section
variable {P : Program} {ops : Array Oper} {o : Oper} {a : Act} {Q : Exit → Act → World → Prop}
/-- As a step of a region that draws. -/
theorem win_append_step {W : World} {K : Act → World → Prop} {X : Prop} {N : Option Tmp} (hN : o.dst = N) (hw : Region.wanted o (yielded ops a.tmps) = true) (s x : Operand) (t e bytes : Nat) (z : Value)
    (ho : o.op = .call { callee := .builtin .append, args := #[s, x], argTypes := #[t, t] })
    (ht : P.underlying t = some (.slice e)) (hinfo : (P.info? e).map (fun i => (i.zero, i.size, i.bytes)) = some (some z, 1, bytes)) (hz : z.cells.size = 1) (hb0 : 0 < bytes)
    (p : Option Addr) (n c : Nat) (cs : List Value) (hs : a.eval s = .slice p n c) (ad : Addr) (mc : Nat) (hx : a.eval x = .slice (some ad) 1 mc) (v : Value) (hv : W.cell? ad = some v) (h1 : v.oneCell' = true) (HO : Win W p n c cs) (hl : (n + 1) * bytes ≤ 140737488355328)
    (h : ∀ p1 c1 w1, Win w1 p1 (n + 1) c1 (cs ++ [v]) → Ext (fun k => blkOf p = some k) W w1 → Moved W p p1 → K (a.put N (.slice p1 (n + 1) c1)) w1) :
    if Region.wanted o (yielded ops a.tmps) = true then Oper.wp P o a W K Q else X := by
  subst hN
  rw [if_pos hw]
  obtain ⟨p1, c1, w1, hr, hA, hx1, hm1⟩ := run_win_append (P := P) t o.type e bytes z ht hinfo hz hb0 HO ad mc v hv h1 hl
  unfold Oper.wp execOp
  simp only [ho, resolve, invoke, builtin, Sem.run_bind, Sem.run_pure, Result.andThen_ok, List.map_toArray, List.map_cons, List.map_nil, hs, hx, hr]
  exact h p1 c1 w1 hA hx1 hm1
/-- append of a slice as a step of a region that draws, its slot named. -/
theorem arr_append_stepN {W : World} {K : Act → World → Prop} {X : Prop} {N : Option Tmp} (hN : o.dst = N) (hw : Region.wanted o (yielded ops a.tmps) = true) (s x : Operand) (t e sz bytes : Nat) (z : Value)
    (ho : o.op = .call { callee := .builtin .append, args := #[s, x], argTypes := #[t, t] })
    (ht : P.underlying t = some (.slice e)) (hinfo : (P.info? e).map (fun i => (i.zero, i.size, i.bytes)) = some (some z, sz, bytes)) (hz : z.cells.size = sz) (hsz : 0 < sz) (hb0 : 0 < bytes)
    (p : Option Addr) (n c : Nat) (cs : List Value) (hs : a.eval s = .slice p n c) (q : Option Addr) (m mc : Nat) (hx : a.eval x = .slice q m mc) (news : List Value) (hnl : news.length = m * sz) (hnews : ∀ ad, q = some ad → ∀ j u, news[j]? = some u → W.cell? (ad.add j) = some u) (h0 : q = none → m = 0) (h1 : ∀ u ∈ news, u.oneCell' = true)
    (HO : Arr W e sz p n c cs) (hl : (n + m) * bytes ≤ 140737488355328)
    (h : ∀ p1 c1 w1, Arr w1 e sz p1 (n + m) c1 (cs ++ news) → Ext (fun k => blkOf p = some k) W w1 → Moved W p p1 → K (a.put N (.slice p1 (n + m) c1)) w1) :
    if Region.wanted o (yielded ops a.tmps) = true then Oper.wp P o a W K Q else X := by
  subst hN
  exact arr_append_step hw s x t e sz bytes z ho ht hinfo hz hsz hb0 p n c cs hs q m mc hx news hnl hnews h0 h1 HO hl h
/-- In a region that does not draw. -/
theorem win_append {W : World} {rest : List Oper} (hgd : o.guard = none) (s x : Operand) (t e bytes : Nat) (z : Value)
    (ho : o.op = .call { callee := .builtin .append, args := #[s, x], argTypes := #[t, t] })
    (ht : P.underlying t = some (.slice e)) (hinfo : (P.info? e).map (fun i => (i.zero, i.size, i.bytes)) = some (some z, 1, bytes)) (hz : z.cells.size = 1) (hb0 : 0 < bytes)
    (p : Option Addr) (n c : Nat) (cs : List Value) (hs : a.eval s = .slice p n c) (ad : Addr) (mc : Nat) (hx : a.eval x = .slice (some ad) 1 mc) (v : Value) (hv : W.cell? ad = some v) (h1 : v.oneCell' = true) (HO : Win W p n c cs) (hl : (n + 1) * bytes ≤ 140737488355328)
    (h : ∀ p1 c1 w1, Win w1 p1 (n + 1) c1 (cs ++ [v]) → Ext (fun k => blkOf p = some k) W w1 → Moved W p p1 → wpList P ops Q rest (a.put o.dst (.slice p1 (n + 1) c1)) w1) : wpList P ops Q (o :: rest) a W := by
  refine wpList_plain hgd fun K hK => ?_
  obtain ⟨p1, c1, w1, hr, hA, hx1, hm1⟩ := run_win_append (P := P) t o.type e bytes z ht hinfo hz hb0 HO ad mc v hv h1 hl
  unfold Oper.wp execOp
  simp only [ho, resolve, invoke, builtin, Sem.run_bind, Sem.run_pure, Result.andThen_ok, List.map_toArray, List.map_cons, List.map_nil, hs, hx, hr]
  exact hK _ _ (h p1 c1 w1 hA hx1 hm1)
end
end Go.Proofs.Ytbepmbihonnkaaa.Lib
