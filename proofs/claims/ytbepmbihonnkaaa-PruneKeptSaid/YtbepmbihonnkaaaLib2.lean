/- append of a slice, whatever it is. -/
import Derived.Test.YtbepmbihonnkaaaLib
import Derived.Maps.AppendAt
namespace Go.Proofs.Ytbepmbihonnkaaa.Lib
open Go.RowKit
set_option linter.unusedVariables false
set_option linter.unusedSimpArgs false

section
variable {P : Program} {ops : Array Oper} {rest : List Oper} {o : Oper} {a : Act} {Q : Exit → Act → World → Prop}
/-- append(v, x...), run. -/
theorem run_arr_append {W : World} (t ty e sz bytes : Nat) (z : Value) (ht : P.underlying t = some (.slice e)) (hinfo : (P.info? e).map (fun i => (i.zero, i.size, i.bytes)) = some (some z, sz, bytes)) (hz : z.cells.size = sz) (hsz : 0 < sz) (hb0 : 0 < bytes)
    (p : Option Addr) (n c : Nat) (cs : List Value) (HO : Arr W e sz p n c cs) (q : Option Addr) (m mc : Nat) (news : List Value) (hnl : news.length = m * sz) (hnews : ∀ ad, q = some ad → ∀ j u, news[j]? = some u → W.cell? (ad.add j) = some u) (h0 : q = none → m = 0) (h1 : ∀ u ∈ news, u.oneCell' = true)
    (hl : (n + m) * bytes ≤ 140737488355328) :
    ∃ p1 c1 w1, (Builtin.append_ #[t, t] ty #[.slice p n c, .slice q m mc]).run P W = .ok (.slice p1 (n + m) c1) w1 ∧ Arr w1 e sz p1 (n + m) c1 (cs ++ news) ∧ Ext (fun k => blkOf p = some k) W w1 ∧ Moved W p p1 := by
  obtain ⟨i0, hi, hzz⟩ := Option.map_eq_some_iff.1 hinfo
  simp only [Prod.mk.injEq] at hzz
  obtain ⟨hz0, hz1, hz2⟩ := hzz
  have hbo : (Value.slice p n c).ownBlock = blkOf p := by cases p <;> rfl
  cases q with
  | none =>
    have hm := h0 rfl
    subst hm
    have hn : news = [] := List.eq_nil_of_length_eq_zero (by simpa using hnl)
    subst hn
    refine ⟨p, c, W, ?_, by simpa using HO, Ext.refl _ _, Moved.refl _ _⟩
    have hc := (arr_cap HO).1
    cases p with
    | none =>
      obtain ⟨rfl, rfl, _⟩ := arr_none HO
      simp [Builtin.append_, run_underlying ht, sizeOf, typeInfo, hi, Builtin.lenOf, Builtin.firstCells, loadCells, loadCellsFrom]
    | some ad => simp [Builtin.append_, run_underlying ht, sizeOf, typeInfo, hi, Builtin.lenOf, Builtin.firstCells, loadCells, loadCellsFrom, hc, storeCells]
  | some ad =>
    have hnm : n + m ≤ 140737488355328 := Nat.le_trans (Nat.le_mul_of_pos_right _ hb0) hl
    obtain ⟨v1, w1, hr, hown, hg, _, hat⟩ := run_append_own_at (P := P) W 0 t ty e i0 z sz bytes ht hi hz0 hz1 hz2 hz hsz (.slice p n c) n cs HO ad m mc news hnl (hnews ad rfl) h1 (by simp only [maxLen]; omega) hl (Nat.zero_le _)
    obtain ⟨p1, c1, rfl⟩ : ∃ p1 c1, v1 = .slice p1 (n + m) c1 := by
      rcases hown.2 with ⟨rfl, h0⟩ | ⟨g, cap, cur, rfl, _⟩
      · exact ⟨none, 0, by rw [h0]⟩
      · exact ⟨_, cap, rfl⟩
    have hbo1 : (Value.slice p1 (n + m) c1).ownBlock = blkOf p1 := by cases p1 <;> rfl
    rw [hbo] at hg hat
    rw [hbo1] at hat
    refine ⟨p1, c1, w1, hr, hown, (Ext.refl _ W).grown hg (fun k hk _ => hk), fun k hk => ?_⟩
    rcases hat with hat | hat
    · exact .inl (hat ▸ hk)
    · rw [hat] at hk
      injection hk with hk
      exact .inr (by omega)
theorem arr_append {W : World} (hgd : o.guard = none) (s x : Operand) (t e sz bytes : Nat) (z : Value)
    (ho : o.op = .call { callee := .builtin .append, args := #[s, x], argTypes := #[t, t] })
    (ht : P.underlying t = some (.slice e)) (hinfo : (P.info? e).map (fun i => (i.zero, i.size, i.bytes)) = some (some z, sz, bytes)) (hz : z.cells.size = sz) (hsz : 0 < sz) (hb0 : 0 < bytes)
    (p : Option Addr) (n c : Nat) (cs : List Value) (hs : a.eval s = .slice p n c) (q : Option Addr) (m mc : Nat) (hx : a.eval x = .slice q m mc) (news : List Value) (hnl : news.length = m * sz) (hnews : ∀ ad, q = some ad → ∀ j u, news[j]? = some u → W.cell? (ad.add j) = some u) (h0 : q = none → m = 0) (h1 : ∀ u ∈ news, u.oneCell' = true)
    (HO : Arr W e sz p n c cs) (hl : (n + m) * bytes ≤ 140737488355328)
    (h : ∀ p1 c1 w1, Arr w1 e sz p1 (n + m) c1 (cs ++ news) → Ext (fun k => blkOf p = some k) W w1 → Moved W p p1 → wpList P ops Q rest (a.put o.dst (.slice p1 (n + m) c1)) w1) :
    wpList P ops Q (o :: rest) a W := by
  refine wpList_plain hgd fun K hK => ?_
  obtain ⟨p1, c1, w1, hr, hA, hx1, hm1⟩ := run_arr_append (P := P) t o.type e sz bytes z ht hinfo hz hsz hb0 p n c cs HO q m mc news hnl hnews h0 h1 hl
  unfold Oper.wp execOp
  simp only [ho, resolve, invoke, builtin, Sem.run_bind, Sem.run_pure, Result.andThen_ok, List.map_toArray, List.map_cons, List.map_nil, hs, hx, hr]
  exact hK _ _ (h p1 c1 w1 hA hx1 hm1)
theorem arr_append_step {W : World} {K : Act → World → Prop} {E : Prop} (hw : Region.wanted o (yielded ops a.tmps) = true) (s x : Operand) (t e sz bytes : Nat) (z : Value)
    (ho : o.op = .call { callee := .builtin .append, args := #[s, x], argTypes := #[t, t] })
    (ht : P.underlying t = some (.slice e)) (hinfo : (P.info? e).map (fun i => (i.zero, i.size, i.bytes)) = some (some z, sz, bytes)) (hz : z.cells.size = sz) (hsz : 0 < sz) (hb0 : 0 < bytes)
    (p : Option Addr) (n c : Nat) (cs : List Value) (hs : a.eval s = .slice p n c) (q : Option Addr) (m mc : Nat) (hx : a.eval x = .slice q m mc) (news : List Value) (hnl : news.length = m * sz) (hnews : ∀ ad, q = some ad → ∀ j u, news[j]? = some u → W.cell? (ad.add j) = some u) (h0 : q = none → m = 0) (h1 : ∀ u ∈ news, u.oneCell' = true)
    (HO : Arr W e sz p n c cs) (hl : (n + m) * bytes ≤ 140737488355328)
    (h : ∀ p1 c1 w1, Arr w1 e sz p1 (n + m) c1 (cs ++ news) → Ext (fun k => blkOf p = some k) W w1 → Moved W p p1 → K (a.put o.dst (.slice p1 (n + m) c1)) w1) :
    if Region.wanted o (yielded ops a.tmps) = true then Oper.wp P o a W K Q else E := by
  rw [if_pos hw]
  obtain ⟨p1, c1, w1, hr, hA, hx1, hm1⟩ := run_arr_append (P := P) t o.type e sz bytes z ht hinfo hz hsz hb0 p n c cs HO q m mc news hnl hnews h0 h1 hl
  unfold Oper.wp execOp
  simp only [ho, resolve, invoke, builtin, Sem.run_bind, Sem.run_pure, Result.andThen_ok, List.map_toArray, List.map_cons, List.map_nil, hs, hx, hr]
  exact h p1 c1 w1 hA hx1 hm1
end
end Go.Proofs.Ytbepmbihonnkaaa.Lib
