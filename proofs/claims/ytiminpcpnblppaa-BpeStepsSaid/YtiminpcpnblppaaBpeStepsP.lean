/- law10.BpeSteps: what the loop keeps; what is said of the steps. -/
import Derived.Test.YtiminpcpnblppaaBpeRange
import Derived.Test.YtiminpcpnblppaaBpeEnds
namespace Go.Proofs.Ytiminpcpnblppaa.Bpe
open Go.RowKit Go.Proofs.Ytiminpcpnblppaa.Lib Go.Proofs.Ytiminpcpnblppaa.Sl Go.Proofs.Ytiminpcpnblppaa.Chain
set_option linter.unusedVariables false
set_option linter.unusedSimpArgs false

/-- The three boxes that a round writes. -/
def V3 (b : Nat) (b10 k : Nat) : Prop := k = b ∨ k = b10 ∨ k = b10 + 1
structure SS (W0 : World) (b8 b10 : Nat) (d : Dat) (t : ByteArray) (pre : List (Nat × Nat)) (O : Nat → Prop) (W : World) (p : Option Addr) (c : Nat) (l : List Int) (last : Nat) : Prop where
  ext : Ext (V3 b8 b10) W0 W
  x8 : Boxed W b8 27 (.slice p l.length c)
  ar : Arr W 3 1 p l.length c (Chain.ints l)
  far : ∀ k, blkOf p = some k → ¬ O k ∧ ¬ V3 b8 b10 k
  x10 : Boxed W b10 3 (.int .i64 (last : Int))
  x11 : Boxed W (b10 + 1) 3 (.int .i64 (pre.length : Int))
  jn : joinT d.ms (bytesL t) = ((joinT d.ms l).1, pre ++ (joinT d.ms l).2)
  rk : ∀ r i id, nextT d.ms l = some (r, i, id) → last ≤ r
  ln : l.length + pre.length = t.size
  own : ∀ k, O k → W0.heap.size ≤ k
  lt : b8 < b10 ∧ b10 + 1 < W0.heap.size
def SI (W0 : World) (b8 b10 : Nat) (d : Dat) (t : ByteArray) (pre : List (Nat × Nat)) (O : Nat → Prop) (W : World) : Prop := ∃ p c l last, SS W0 b8 b10 d t pre O W p c l last
theorem V3.lt {b8 b10 k n : Nat} (h : V3 b8 b10 k) (hl : b8 < b10 ∧ b10 + 1 < n) : k < n := by rcases h with h | h | h <;> omega
theorem si_abide (W0 : World) (b8 b10 : Nat) (d : Dat) (t : ByteArray) : AbideW (SI W0 b8 b10 d t) := by
  rintro s O O' A B ⟨p, c, l, last, h⟩ h1 h2 hx
  have z := h.ext.size
  have lt := h.lt
  have hO' : ∀ k, O' k → W0.heap.size ≤ k := fun k hk => by
    rcases h2 k hk with h' | h'
    · exact h.own k h'
    · omega
  have hp : ∀ k, blkOf p = some k → ¬ O' k := fun k hk h' => by
    rcases h2 k h' with h' | h'
    · exact (h.far k hk).1 h'
    · have := arr_lt h.ar hk; omega
  exact ⟨p, c, l, last, h.ext.trans hx (fun i hi h => by have := hO' i h; omega), hx.obj h.x8 (fun h => by have := hO' _ h; omega), arr_ext h.ar hx (fun k hk h' => hp k hk h'), fun k hk => ⟨hp k hk, (h.far k hk).2⟩,
    hx.obj h.x10 (fun h => by have := hO' _ h; omega), hx.obj h.x11 (fun h => by have := hO' _ h; omega), h.jn, h.rk, h.ln, hO', lt⟩
theorem si_turn (W0 : World) (b8 b10 : Nat) (d : Dat) (t : ByteArray) : TurnW W0.heap.size (SI W0 b8 b10 d t) := by
  rintro s O A k o o' ⟨p, c, l, last, h⟩ hl nO ho hc
  have hx : Ext (fun j => j = k) A (A.putObj k o') := ext_putObj _ (Ext.refl _ _) (fun _ => rfl)
  have lt := h.lt
  refine ⟨p, c, l, last, h.ext.trans hx (fun i hi h => by omega), hx.obj h.x8 (fun h => by omega), arr_ext h.ar hx (fun j hj h' => ?_), h.far, hx.obj h.x10 (fun h => by omega), hx.obj h.x11 (fun h => by omega), h.jn, h.rk, h.ln, h.own, lt⟩
  obtain ⟨o2, h1, h2⟩ := arr_isCells h.ar hj
  rw [h', ho] at h1
  cases h1
  rw [hc] at h2
  cases h2
theorem steps_head {d : Dat} {t : ByteArray} {pre : List (Nat × Nat)} {x : Nat × Nat} {l : List Int} (jn : joinT d.ms (bytesL t) = ((joinT d.ms l).1, pre ++ (joinT d.ms l).2)) (h : pre ++ [x] <+: stepsT d t) : ∃ id, nextT d.ms l = some (x.1, x.2, id) := by
  unfold stepsT at h
  rw [jn] at h
  have h2 : [x] <+: (joinT d.ms l).2 := (List.prefix_append_right_inj pre).1 h
  cases hn : nextT d.ms l with
  | none =>
    rw [joinT_none hn] at h2
    simp at h2
  | some y =>
    obtain ⟨r, i, id⟩ := y
    rw [joinT_some hn] at h2
    simp at h2
    subst h2
    exact ⟨id, rfl⟩
/-- What a round makes. -/
theorem ss_next {W0 W W' : World} {b8 b10 : Nat} {d : Dat} {t : ByteArray} {pre : List (Nat × Nat)} {O : Nat → Prop} {p p' : Option Addr} {c c' : Nat} {l : List Int} {last : Nat} {x : Nat × Nat} {id : Int} (h : SS W0 b8 b10 d t pre O W p c l last) (hd : RightD d)
    (hn : nextT d.ms l = some (x.1, x.2, id)) (hx : Ext (fun k => V3 b8 b10 k ∨ (W.heap.size ≤ k)) W W')
    (x8 : Boxed W' b8 27 (.slice p' (stepT l x.2 id).length c')) (ar : Arr W' 3 1 p' (stepT l x.2 id).length c' (Chain.ints (stepT l x.2 id))) (far : ∀ k, blkOf p' = some k → ¬ O k ∧ ¬ V3 b8 b10 k)
    (x10 : Boxed W' b10 3 (.int .i64 (x.1 : Int))) (x11 : Boxed W' (b10 + 1) 3 (.int .i64 ((pre.length : Int) + 1))) : SI W0 b8 b10 d t (pre ++ [x]) O W' := by
  have z := h.ext.size
  have hl := (nextT_some hn).1.lt
  refine ⟨p', c', stepT l x.2 id, x.1, h.ext.trans hx (fun i hi e => ?_), x8, ar, far, x10, by simpa using x11, ?_, fun r i id2 h2 => rank_rise hd hn h2, ?_, h.own, h.lt⟩
  · rcases e with e | e
    · exact e
    · omega
  · rw [h.jn, joinT_some hn]
    simp
  · have h3 := stepT_length (l := l) (i := x.2) (id := id) (by omega)
    have := h.ln
    simp only [List.length_append, List.length_cons, List.length_nil]
    omega
/-- The next step is below no other. -/
theorem step_low {ms : List Mrg} {l : List Int} {r i k r' : Nat} {id id' a b : Int} (hn : nextT ms l = some (r, i, id)) (ha : l[k]? = some a) (hb : l[k + 1]? = some b) (hm : mergeOf ms a b = some (r', id')) : r ≤ r' ∧ (r' = r → i ≤ k) ∧ (k = i → r' = r ∧ id' = id) := by
  have hs := nextT_some hn
  have h2 := hs.2 k r' id' ⟨a, b, ha, hb, hm⟩
  refine ⟨by omega, fun e => by omega, fun e => ?_⟩
  subst e
  have := At.uniq ⟨a, b, ha, hb, hm⟩ hs.1
  exact this
theorem step_at {ms : List Mrg} {l : List Int} {r i : Nat} {id : Int} (hn : nextT ms l = some (r, i, id)) : i + 1 < l.length ∧ ∃ a b, l[i]? = some a ∧ l[i + 1]? = some b ∧ mergeOf ms a b = some (r, id) := by
  have hs := nextT_some hn
  exact ⟨by have := hs.1.lt; omega, hs.1⟩
end Go.Proofs.Ytiminpcpnblppaa.Bpe
namespace Go.Proofs.Ytiminpcpnblppaa.Bpe
open Go.RowKit Go.Proofs.Ytiminpcpnblppaa.Lib Go.Proofs.Ytiminpcpnblppaa.Sl Go.Proofs.Ytiminpcpnblppaa.Chain
set_option linter.unusedVariables false
set_option linter.unusedSimpArgs false
theorem step_cut {ms : List Mrg} {l : List Int} {r i : Nat} {id : Int} (hn : nextT ms l = some (r, i, id)) : Chain.ints (stepT l i id) = ([] ++ Chain.ints (l.take i)) ++ [.int .i64 id] ++ Chain.ints (l.drop (i + 2)) ∧ (stepT l i id).length = 0 + i + 1 + (l.length - (i + 2)) := by
  obtain ⟨p, a, b, q, rfl, rfl, _, hst⟩ := (nextT_some hn).1.split
  rw [hst]
  have e : (p ++ a :: b :: q).drop (p.length + 2) = q := by
    rw [show p ++ a :: b :: q = (p ++ [a, b]) ++ q by simp, List.drop_append_of_le_length (by simp), List.drop_of_length_le (by simp), List.nil_append]
  rw [e]
  constructor
  · simp [Chain.ints]
  · simp
    omega
theorem rd_take {W : World} {b o : Nat} {l : List Int} (h : Rd eI W (some ⟨b, o, none⟩) l) (m : Nat) : ∀ ad, some (⟨b, o, none⟩ : Addr) = some ad → ∀ j v, (Chain.ints (l.take m))[j]? = some v → W.cell? (ad.add j) = some v := by
  intro ad e j v hv
  injection e with e
  subst e
  unfold Chain.ints at hv
  rw [List.getElem?_map] at hv
  obtain ⟨x, hx, rfl⟩ := Option.map_eq_some_iff.1 hv
  have hx2 : l[j]? = some x := by
    rw [List.getElem?_take] at hx
    split at hx
    · exact hx
    · cases hx
  obtain ⟨b', o', e, _, hc⟩ := h.cellI hx2
  cases e
  unfold Addr.add
  split
  · subst_vars; simpa using hc
  · exact hc
theorem rd_drop {W : World} {b : Nat} {l : List Int} (h : Rd eI W (some ⟨b, 0, none⟩) l) (m : Nat) : ∀ ad, some (⟨b, m, none⟩ : Addr) = some ad → ∀ j v, (Chain.ints (l.drop m))[j]? = some v → W.cell? (ad.add j) = some v := by
  intro ad e j v hv
  injection e with e
  subst e
  unfold Chain.ints at hv
  rw [List.getElem?_map, List.getElem?_drop] at hv
  obtain ⟨x, hx, rfl⟩ := Option.map_eq_some_iff.1 hv
  obtain ⟨b', o', e, _, hc⟩ := h.cellI hx
  cases e
  rw [Nat.zero_add] at hc
  unfold Addr.add
  split
  · subst_vars; simpa using hc
  · exact hc
theorem ints_one (l : List Int) : ∀ u ∈ Chain.ints l, u.oneCell' = true := by
  intro u hu
  unfold Chain.ints at hu
  obtain ⟨x, _, rfl⟩ := List.mem_map.1 hu
  simp [Value.oneCell']
theorem one_news {W : World} {N t : Nat} {v : Value} {fr : Nat × Nat} (h : W.heap[N]? = some (.cells #[v] t fr)) : ∀ ad, some (⟨N, 0, none⟩ : Addr) = some ad → ∀ j u, [v][j]? = some u → W.cell? (ad.add j) = some u := by
  intro ad e j u hu
  injection e with e
  subst e
  cases j with
  | zero =>
    have := blk_cell h 0
    simp at this hu
    subst hu
    simpa [Addr.add] using this
  | succ j => simp at hu
/-- append to numbers of the round's own. -/
theorem appI_step {ops : Array Oper} {o : Oper} {a : Act} {K : Act → World → Prop} {Q : Exit → Act → World → Prop} {X : Prop} {wr W : World} {N : Option Tmp} (hN : o.dst = N) (hw : Region.wanted o (yielded ops a.tmps) = true) (s x : Operand)
    (ho : o.op = .call { callee := .builtin .append, args := #[s, x], argTypes := #[27, 27] }) (p : Option Addr) (n c : Nat) (cs : List Value) (hs : a.eval s = .slice p n c) (q : Option Addr) (m mc : Nat) (hx : a.eval x = .slice q m mc) (news : List Value) (hnl : news.length = m)
    (hnews : ∀ ad, q = some ad → ∀ j u, news[j]? = some u → W.cell? (ad.add j) = some u) (h0 : q = none → m = 0) (h1 : ∀ u ∈ news, u.oneCell' = true) (E : Ext (fun _ => False) wr W) (HO : Arr W 3 1 p n c cs) (hf : ∀ k, blkOf p = some k → wr.heap.size ≤ k) (hl : n + m ≤ 1048576)
    (h : ∀ p1 c1 w1, Arr w1 3 1 p1 (n + m) c1 (cs ++ news) → Ext (fun _ => False) wr w1 → Ext (fun k => blkOf p = some k) W w1 → (∀ k, blkOf p1 = some k → wr.heap.size ≤ k) → K (a.put N (.slice p1 (n + m) c1)) w1) :
    if Region.wanted o (yielded ops a.tmps) = true then Oper.wp Try.prog o a W K Q else X := by
  subst hN
  refine arr_append_step hw s x 27 3 1 8 (.int .i64 0) ho Try.underlying27 infoI rfl (by decide) (by decide) p n c cs hs q m mc hx news (by omega) hnews h0 h1 HO (by omega) ?_
  intro p1 c1 w1 hA hx1 hm1
  exact h p1 c1 w1 hA (E.trans hx1 (fun i hi e => by have := hf i e; omega)) hx1 (fun k hk => by
    rcases hm1 k hk with h2 | h2
    · exact hf k h2
    · have := E.size; omega)
theorem ss_end {W0 W9 w14 : World} {b8 b10 N : Nat} {d : Dat} {t : ByteArray} {pre : List (Nat × Nat)} {O : Nat → Prop} {p p' : Option Addr} {c c' : Nat} {l : List Int} {last : Nat} {x : Nat × Nat} {id : Int} {cs : List Value} (h : SS W0 b8 b10 d t pre O W9 p c l last) (hd : RightD d)
    (hn : nextT d.ms l = some (x.1, x.2, id)) (hO : ∀ k, O k → W0.heap.size ≤ k ∧ k < W9.heap.size) (E : Ext (fun _ => False) W9 w14) (ar : Arr w14 3 1 p' N c' cs) (hN : (stepT l x.2 id).length = N) (hcs : Chain.ints (stepT l x.2 id) = cs) (far : ∀ k, blkOf p' = some k → W9.heap.size ≤ k) :
    KeepsOthers W9 (((w14.setCell ⟨b8, 0, none⟩ (.slice p' N c')).setCell ⟨b10, 0, none⟩ (.int .i64 (x.1 : Int))).setCell ⟨b10 + 1, 0, none⟩ (.int .i64 ((pre.length : Int) + 1))) ∧
    Ext (Free (V3 b8 b10) O W0.heap.size) W9 (((w14.setCell ⟨b8, 0, none⟩ (.slice p' N c')).setCell ⟨b10, 0, none⟩ (.int .i64 (x.1 : Int))).setCell ⟨b10 + 1, 0, none⟩ (.int .i64 ((pre.length : Int) + 1))) ∧
    SI W0 b8 b10 d t (pre ++ [x]) O (((w14.setCell ⟨b8, 0, none⟩ (.slice p' N c')).setCell ⟨b10, 0, none⟩ (.int .i64 (x.1 : Int))).setCell ⟨b10 + 1, 0, none⟩ (.int .i64 ((pre.length : Int) + 1))) := by
  subst hN hcs
  have lt := h.lt
  have z := h.ext.size
  have nO : ∀ k, V3 b8 b10 k → ¬ O k := fun k hk ho => by have := hk.lt lt; have := (hO k ho).1; omega
  have e1 : Ext (fun k => k = b8) w14 (w14.setCell ⟨b8, 0, none⟩ (.slice p' (stepT l x.2 id).length c')) := (Ext.refl (fun k => k = b8) w14).setCell (p := ⟨b8, 0, none⟩) (fun _ => rfl) _
  have e2 := fun (w : World) => (Ext.refl (fun k => k = b10) w).setCell (p := ⟨b10, 0, none⟩) (fun _ => rfl) (.int .i64 (x.1 : Int))
  have e3 := fun (w : World) => (Ext.refl (fun k => k = b10 + 1) w).setCell (p := ⟨b10 + 1, 0, none⟩) (fun _ => rfl) (.int .i64 ((pre.length : Int) + 1))
  have n8 : ∀ k, blkOf p' = some k → k ≠ b8 ∧ k ≠ b10 ∧ k ≠ b10 + 1 ∧ ¬ O k := fun k hk => by have := far k hk; exact ⟨by omega, by omega, by omega, fun ho => by have := (hO k ho).2; omega⟩
  refine ⟨(KeepsOthers.trans (KeepsOthers.trans (KeepsOthers.trans ⟨E.size, fun k o hk _ => E.obj hk (fun h => h)⟩ (KeepsOthers.setCell _ _ _)) (KeepsOthers.setCell _ _ _)) (KeepsOthers.setCell _ _ _)), ?_, ?_⟩
  · refine (((E.mono (fun _ h => h.elim)).setCell (p := ⟨b8, 0, none⟩) (fun _ => ⟨nO _ (.inl rfl), .inr (.inl rfl)⟩) _).setCell (p := ⟨b10, 0, none⟩) (fun _ => ⟨nO _ (.inr (.inl rfl)), .inr (.inr (.inl rfl))⟩) _).setCell (p := ⟨b10 + 1, 0, none⟩) (fun _ => ⟨nO _ (.inr (.inr rfl)), .inr (.inr (.inr rfl))⟩) _
  · refine ss_next h hd hn ?_ (p' := p') (c' := c') ?_ ?_ (fun k hk => ⟨(n8 k hk).2.2.2, fun e => by have := n8 k hk; rcases e with e | e | e <;> omega⟩) ?_ ?_
    · exact (((E.mono (fun _ h => h.elim)).setCell (p := ⟨b8, 0, none⟩) (fun _ => .inl (.inl rfl)) _).setCell (p := ⟨b10, 0, none⟩) (fun _ => .inl (.inr (.inl rfl))) _).setCell (p := ⟨b10 + 1, 0, none⟩) (fun _ => .inl (.inr (.inr rfl))) _
    · exact (e3 _).obj ((e2 _).obj (Boxed.set _ (E.obj h.x8 (fun h => h))) (by omega)) (by omega)
    · exact arr_ext (arr_ext (arr_ext ar e1 (fun k hk => (n8 k hk).1)) (e2 _) (fun k hk => (n8 k hk).2.1)) (e3 _) (fun k hk => (n8 k hk).2.2.1)
    · exact (e3 _).obj (Boxed.set _ (e1.obj (E.obj h.x10 (fun h => h)) (by omega))) (by omega)
    · exact Boxed.set _ ((e2 _).obj (e1.obj (E.obj h.x11 (fun h => h)) (by omega)) (by omega))
theorem steps_done {d : Dat} {t : ByteArray} {l : List Int} (jn : joinT d.ms (bytesL t) = ((joinT d.ms l).1, stepsT d t ++ (joinT d.ms l).2)) : l = (joinT d.ms (bytesL t)).1 := by
  have h1 : stepsT d t = stepsT d t ++ (joinT d.ms l).2 := congrArg Prod.snd jn
  have h2 : (joinT d.ms l).2 = [] := by
    have := congrArg List.length h1
    rw [List.length_append] at this
    exact List.eq_nil_of_length_eq_zero (by omega)
  rw [jn]
  cases hn : nextT d.ms l with
  | none => rw [joinT_none hn]
  | some y =>
    obtain ⟨r, i, id⟩ := y
    rw [joinT_some hn] at h2
    cases h2
theorem leaves_one {w W : World} {b6 : Nat} {v : Value} {F : Fence} {n : Nat} {P : Program} {fn : Func} {tmps : Array Value} {D : Nat} (E : Ext (fun _ => False) w W) (bx : Boxed W b6 4 v) (hb : w.heap.size ≤ b6)
    (hr : ∀ {V : World}, V.cell? ⟨b6, 0, none⟩ = some (.bool true) → (results fn tmps).run P V = .ok (.bool true) V) (h1 : W.heap[D]? = some (.deferred (some []))) (hl : w.heap.size ≤ D) :
    LeavesInM F n P fn tmps (fun e w' => e = .returned (.bool true) ∧ Ext (fun _ => False) w w') [{ target := .collected D, args := #[] }] .returning (W.setCell ⟨b6, 0, none⟩ (.bool true)) := by
  have hx : Ext (fun k => k = b6) W (W.setCell ⟨b6, 0, none⟩ (.bool true)) := (Ext.refl (fun k => k = b6) W).setCell (p := ⟨b6, 0, none⟩) (fun _ => rfl) _
  have b1 : b6 ≠ D := fun e => by have := bx; unfold Boxed at this; rw [e, h1] at this; cases this
  refine leaves_mark1 (hx.obj h1 (fun e => b1 e.symm)) (fun w1 hx1 => ?_)
  have c6 : Boxed w1 b6 4 (.bool true) := hx1.obj (Boxed.set _ bx) b1
  exact ⟨.bool true, hr c6.cell, rfl, (E.trans hx (fun i hi e => by omega)).trans hx1 (fun i hi e => by omega)⟩
end Go.Proofs.Ytiminpcpnblppaa.Bpe
