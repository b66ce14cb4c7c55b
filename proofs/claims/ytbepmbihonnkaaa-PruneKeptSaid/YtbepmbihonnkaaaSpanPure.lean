/- Merged of Sl, Clone, SpanPure. -/
import Derived.Test.YtbepmbihonnkaaaLib2
import Derived.Test.YtbepmbihonnkaaaProg
import Derived.WalkSpells
/- Slices that read as lists; the encodings of elements; a model's data. -/
namespace Go.Proofs.Ytbepmbihonnkaaa.Sl
open Go.RowKit Go.Proofs.Ytbepmbihonnkaaa.Lib
set_option linter.unusedVariables false
set_option linter.unusedSimpArgs false

instance : DecidableEq ByteArray := fun a b => decidable_of_iff (a.data = b.data) ⟨fun h => by cases a; cases b; simp_all, fun h => by rw [h]⟩
/-- How an element lies in cells. -/
structure En (α : Type) where
  sz : Nat
  enc : α → List Value
  pos : 0 < sz
  len : ∀ x, (enc x).length = sz
  one : ∀ x, ∀ u ∈ enc x, u.oneCell' = true
section
variable {α : Type} (E : En α)
def flat (l : List α) : List Value := l.flatMap E.enc
theorem flat_nil : flat E [] = [] := rfl
theorem flat_cons (x : α) (l : List α) : flat E (x :: l) = E.enc x ++ flat E l := rfl
theorem flat_append (l m : List α) : flat E (l ++ m) = flat E l ++ flat E m := by simp [flat]
theorem flat_one (x : α) : flat E [x] = E.enc x := by simp [flat]
theorem flat_cells (l : List α) : ∀ u ∈ flat E l, u.oneCell' = true := by
  intro u hu
  obtain ⟨x, _, h⟩ := List.mem_flatMap.1 hu
  exact E.one x u h
theorem flat_length (l : List α) : (flat E l).length = l.length * E.sz := by
  induction l with
  | nil => simp [flat]
  | cons x l ih => rw [flat_cons, List.length_append, ih, E.len, List.length_cons, Nat.succ_mul, Nat.add_comm]
theorem flat_get {l : List α} {i : Nat} {x : α} (h : l[i]? = some x) (j : Nat) (hj : j < E.sz) : (flat E l)[i * E.sz + j]? = (E.enc x)[j]? := by
  induction l generalizing i with
  | nil => simp at h
  | cons y l ih =>
    cases i with
    | zero =>
      simp at h
      subst h
      rw [flat_cons, Nat.zero_mul, Nat.zero_add, List.getElem?_append_left (by rw [E.len]; exact hj)]
    | succ i =>
      rw [flat_cons, List.getElem?_append_right (by rw [E.len, Nat.succ_mul]; omega), E.len, show (i + 1) * E.sz + j - E.sz = i * E.sz + j from by rw [Nat.succ_mul]; omega]
      exact ih (by simpa using h)
theorem flat_take (l : List α) (m : Nat) (hm : m ≤ l.length) : flat E (l.take m) = (flat E l).take (m * E.sz) := by
  have e := flat_append E (l.take m) (l.drop m)
  rw [List.take_append_drop] at e
  rw [e, List.take_left' (by rw [flat_length, List.length_take, Nat.min_eq_left hm])]

/-- A slice at p reads as l. -/
def Rd (w : World) (p : Option Addr) (l : List α) : Prop :=
  ∀ i x, l[i]? = some x → ∃ b o, p = some ⟨b, o, none⟩ ∧ b < w.heap.size ∧ ∀ j, j < E.sz → w.cell? ⟨b, o + i * E.sz + j, none⟩ = (E.enc x)[j]?
variable {E}
variable {w w' : World} {p : Option Addr} {l : List α}
theorem Rd.ext {S : Nat → Prop} (h : Rd E w p l) (hx : Ext S w w') (hn : ∀ k, blkOf p = some k → k < w.heap.size → ¬ S k) : Rd E w' p l := by
  intro i x hi
  obtain ⟨b, o, hp, hb, hc⟩ := h i x hi
  have hnb : ¬ S b := hn b (by rw [hp]; rfl) hb
  exact ⟨b, o, hp, Nat.lt_of_lt_of_le hb hx.size, fun j hj => (hx.cell (p := ⟨b, o + i * E.sz + j, none⟩) hb hnb).trans (hc j hj)⟩
theorem Rd.on (h : Rd E w p l) (hx : Ext (fun _ => False) w w') : Rd E w' p l := h.ext hx (fun _ _ _ h => h)
theorem Rd.nil : Rd E w p [] := fun i x h => by simp at h
theorem Rd.none_ (h : Rd E w none l) : l = [] := by
  cases l with
  | nil => rfl
  | cons x l =>
    obtain ⟨b, o, hp, _⟩ := h 0 x (by simp)
    cases hp
theorem Rd.take (h : Rd E w p l) (m : Nat) : Rd E w p (l.take m) := fun i x hi => by
  rw [List.getElem?_take] at hi
  split at hi
  · exact h i x hi
  · cases hi
theorem Rd.src (h : Rd E w p l) : ∀ ad, p = some ad → ∀ j u, (flat E l)[j]? = some u → w.cell? (ad.add j) = some u := by
  rintro ad rfl j u hu
  have hj : j < l.length * E.sz := by
    have := (List.getElem?_eq_some_iff.1 hu).1
    rwa [flat_length] at this
  have hpos := E.pos
  have hi : j / E.sz < l.length := by rw [Nat.div_lt_iff_lt_mul hpos]; exact hj
  obtain ⟨b, o, hp, hb, hc⟩ := h (j / E.sz) _ (List.getElem?_eq_getElem hi)
  obtain rfl := Option.some.inj hp
  have h1 := hc (j % E.sz) (Nat.mod_lt _ hpos)
  have h2 := flat_get E (List.getElem?_eq_getElem hi) (j % E.sz) (Nat.mod_lt _ hpos)
  have e : j / E.sz * E.sz + j % E.sz = j := by rw [Nat.mul_comm]; exact Nat.div_add_mod j E.sz
  rw [e] at h2
  rw [Nat.add_assoc, e] at h1
  rw [Addr.add_lit, h1, ← h2, hu]
/-- What is owned is read. -/
theorem Rd.of_arr {e c n : Nat} (h : Arr w e E.sz p n c (flat E l)) : Rd E w p l := by
  intro i x hi
  have hlt : i < l.length := (List.getElem?_eq_some_iff.1 hi).1
  have hn : n * E.sz = l.length * E.sz := by rw [← flat_length E l]; exact (arr_len h).symm
  have hn2 : n = l.length := Nat.eq_of_mul_eq_mul_right E.pos hn
  subst hn2
  obtain ⟨a, rfl⟩ := arr_some h (by omega)
  refine ⟨a, 0, rfl, arr_lt h rfl, fun j hj => ?_⟩
  have hlt2 : i * E.sz + j < l.length * E.sz := by
    have : (i + 1) * E.sz ≤ l.length * E.sz := Nat.mul_le_mul_right _ hlt
    rw [Nat.succ_mul] at this
    omega
  rw [Nat.zero_add, arr_cell h _ hlt2, flat_get E hi j hj]
end

/-! ### the elements -/
structure Mrg where
  l : Int
  r : Int
  i : Int
  deriving DecidableEq, Inhabited
structure Spn where
  lo : Int
  hi : Int
  deriving DecidableEq, Inhabited
def eS : En ByteArray := ⟨1, fun s => [.string s], by decide, fun _ => rfl, by simp [Value.oneCell']⟩
def eI : En Int := ⟨1, fun x => [.int .i64 x], by decide, fun _ => rfl, by simp [Value.oneCell']⟩
def eM : En Mrg := ⟨3, fun x => [.int .i64 x.l, .int .i64 x.r, .int .i64 x.i], by decide, fun _ => rfl, by simp [Value.oneCell']⟩
def eP : En Spn := ⟨2, fun x => [.int .i32 x.lo, .int .i32 x.hi], by decide, fun _ => rfl, by simp [Value.oneCell']⟩
section
variable {w : World} {p : Option Addr}
theorem Rd.cellS {l : List ByteArray} (h : Rd eS w p l) {i : Nat} {x : ByteArray} (hi : l[i]? = some x) : ∃ b o, p = some ⟨b, o, none⟩ ∧ b < w.heap.size ∧ w.cell? ⟨b, o + i, none⟩ = some (.string x) := by
  obtain ⟨b, o, hp, hb, hc⟩ := h i x hi
  exact ⟨b, o, hp, hb, by simpa [eS] using hc 0 (by decide)⟩
theorem Rd.cellI {l : List Int} (h : Rd eI w p l) {i : Nat} {x : Int} (hi : l[i]? = some x) : ∃ b o, p = some ⟨b, o, none⟩ ∧ b < w.heap.size ∧ w.cell? ⟨b, o + i, none⟩ = some (.int .i64 x) := by
  obtain ⟨b, o, hp, hb, hc⟩ := h i x hi
  exact ⟨b, o, hp, hb, by simpa [eI] using hc 0 (by decide)⟩
theorem Rd.cellM {l : List Mrg} (h : Rd eM w p l) {i : Nat} {x : Mrg} (hi : l[i]? = some x) : ∃ b o, p = some ⟨b, o, none⟩ ∧ b < w.heap.size ∧
    w.cell? ⟨b, o + i * 3, none⟩ = some (.int .i64 x.l) ∧ w.cell? ⟨b, o + i * 3 + 1, none⟩ = some (.int .i64 x.r) ∧ w.cell? ⟨b, o + i * 3 + 2, none⟩ = some (.int .i64 x.i) := by
  obtain ⟨b, o, hp, hb, hc⟩ := h i x hi
  exact ⟨b, o, hp, hb, by simpa [eM] using hc 0 (by decide), by simpa [eM] using hc 1 (by decide), by simpa [eM] using hc 2 (by decide)⟩
theorem Rd.cellP {l : List Spn} (h : Rd eP w p l) {i : Nat} {x : Spn} (hi : l[i]? = some x) : ∃ b o, p = some ⟨b, o, none⟩ ∧ b < w.heap.size ∧
    w.cell? ⟨b, o + i * 2, none⟩ = some (.int .i32 x.lo) ∧ w.cell? ⟨b, o + i * 2 + 1, none⟩ = some (.int .i32 x.hi) := by
  obtain ⟨b, o, hp, hb, hc⟩ := h i x hi
  exact ⟨b, o, hp, hb, by simpa [eP] using hc 0 (by decide), by simpa [eP] using hc 1 (by decide)⟩
end

/-! ### a model's data -/
structure Dat where
  ws : List ByteArray
  ms : List Mrg
  ls : List Spn
  ns : List Spn
  ss : List Spn
/-- Where five lists lie. -/
structure Pl where
  p0 : Option Addr
  c0 : Nat
  p1 : Option Addr
  c1 : Nat
  p2 : Option Addr
  c2 : Nat
  p3 : Option Addr
  c3 : Nat
  p4 : Option Addr
  c4 : Nat
/-- An int of 64 bits. -/
def inI (n : Int) : Prop := -9223372036854775808 ≤ n ∧ n ≤ 9223372036854775807
/-- Data that are read. -/
structure DR (w : World) (L : Pl) (d : Dat) : Prop where
  r0 : Rd eS w L.p0 d.ws
  r1 : Rd eM w L.p1 d.ms
  r2 : Rd eP w L.p2 d.ls
  r3 : Rd eP w L.p3 d.ns
  r4 : Rd eP w L.p4 d.ss
  k0 : d.ws.length ≤ L.c0
  k1 : d.ms.length ≤ L.c1
  k2 : d.ls.length ≤ L.c2
  k3 : d.ns.length ≤ L.c3
  k4 : d.ss.length ≤ L.c4
  b0 : d.ws.length * 16 ≤ 140737488351232
  b1 : d.ms.length * 24 ≤ 140737488351232
  b2 : d.ls.length * 8 ≤ 140737488351232
  b3 : d.ns.length * 8 ≤ 140737488351232
  b4 : d.ss.length * 8 ≤ 140737488351232
  z0 : ∀ s ∈ d.ws, s.size ≤ 140737488351232
  f1 : ∀ x ∈ d.ms, inI x.l ∧ inI x.r ∧ inI x.i
theorem DR.on {w w' : World} {L : Pl} {d : Dat} (h : DR w L d) (hx : Ext (fun _ => False) w w') : DR w' L d :=
  { h with r0 := h.r0.on hx, r1 := h.r1.on hx, r2 := h.r2.on hx, r3 := h.r3.on hx, r4 := h.r4.on hx }
theorem infoS : (Try.prog.info? 9).map (fun i => (i.zero, i.size, i.bytes)) = some (some (.string ⟨#[]⟩), 1, 16) := by kernel_rfl
theorem infoI : (Try.prog.info? 3).map (fun i => (i.zero, i.size, i.bytes)) = some (some (.int .i64 0), 1, 8) := by kernel_rfl
theorem infoM : (Try.prog.info? 35).map (fun i => (i.zero, i.size, i.bytes)) = some (some (.agg #[.int .i64 0, .int .i64 0, .int .i64 0]), 3, 24) := by kernel_rfl
theorem infoP : (Try.prog.info? 94).map (fun i => (i.zero, i.size, i.bytes)) = some (some (.agg #[.int .i32 0, .int .i32 0]), 2, 8) := by kernel_rfl
theorem infoB : (Try.prog.info? 4).map (fun i => (i.zero, i.size, i.bytes)) = some (some (.bool false), 1, 1) := by kernel_rfl
end Go.Proofs.Ytbepmbihonnkaaa.Sl

/- slices.Clone at the lists of a model's data, and at ints: a copy in new memory. -/
namespace Go.Proofs.Ytbepmbihonnkaaa.Sl
open Go.RowKit Go.Proofs.Ytbepmbihonnkaaa.Lib
set_option linter.unusedVariables false
set_option linter.unusedSimpArgs false

/-- A copy: new memory, the same list. -/
def Cloned {α : Type} (E : En α) (t : Nat) (w : World) (p : Option Addr) (l : List α) (e : Ending) (w' : World) : Prop :=
  ∃ p1 c1, e = .returned (.slice p1 l.length c1) ∧ Arr w' t E.sz p1 l.length c1 (flat E l) ∧ Ext (fun _ => False) w w' ∧ ∀ k, blkOf p1 = some k → w.heap.size ≤ k
theorem Cloned.nil_ {α : Type} {E : En α} {t : Nat} {w : World} : Cloned E t w none [] (.returned (.slice none 0 0)) w :=
  ⟨none, 0, rfl, arr_nil _ _ _, Ext.refl _ _, fun k h => by cases h⟩
theorem Cloned.some_ {α : Type} {E : En α} {t e : Nat} {w w1 : World} {p1 : Option Addr} {c1 : Nat} {ad : Addr} {l : List α} (hA0 : Arr w1 t E.sz p1 (0 + l.length) c1 ([] ++ flat E l)) (hx : Ext (fun k => blkOf (some ⟨w.heap.size, 0, none⟩) = some k) (w.alloc (.cells #[] e)) w1) (hm : Moved (w.alloc (.cells #[] e)) (some ⟨w.heap.size, 0, none⟩) p1) :
    Cloned E t w (some ad) l (.returned (.slice p1 l.length c1)) w1 := by
  have hA : Arr w1 t E.sz p1 l.length c1 (flat E l) := by simpa using hA0
  refine ⟨p1, c1, rfl, hA, ((Ext.refl (fun _ => False) w).alloc _).trans hx (fun i hi h => by simp at h; omega), fun k hk => ?_⟩
  rcases hm k hk with h | h
  · simp at h; omega
  · simp at h; omega
theorem arr_empty (w : World) (t sz : Nat) : Arr (w.alloc (.cells #[] t)) t sz (some ⟨w.heap.size, 0, none⟩) 0 0 [] :=
  ⟨by simp, .inr ⟨w.heap.size, 0, #[], rfl, Nat.zero_le _, heap_alloc_new w _, by omega, by simp [maxLen], by simp, by simp⟩⟩

set_option maxHeartbeats 400000 in
theorem cloneS (w : World) (p : Option Addr) (c : Nat) (l : List ByteArray) (h : Rd eS w p l) (hb : l.length * 16 ≤ 140737488351232) :
    Calls Try.prog 61 #[.slice p l.length c] w fun e w' => Cloned eS 9 w p l e w' := by
  have hnil := fun W : World => Lib.run_eql_slice_nil (P := Try.prog) W 22 9 p l.length c 0 0 Try.underlying22
  have H := Lib.hid h
  cases p with
  | none =>
    have hl : l = [] := H.out.none_
    clear h H hb
    subst hl
    simp only [List.length_nil] at hnil ⊢
    go_enter Try.func61, Try.ntmps61
    go_wp2_with fail
    go_ret
    exact Cloned.nil_
  | some ad =>
    clear h
    go_enter Try.func61, Try.ntmps61
    go_wp2_with ((refine arr_append rfl (.tmp 5) (.tmp 6) 22 9 1 16 (.string ⟨#[]⟩) rfl Try.underlying22 infoS rfl (by decide) (by decide) (some ⟨w.heap.size, 0, none⟩) 0 0 [] rfl (some ad) l.length c rfl (flat eS l) (flat_length eS l) (H.out.on ((Ext.refl _ w).alloc _)).src (fun h => by cases h) (flat_cells eS l) (arr_empty w 9 1) (by omega) ?_); intro p1 c1 w1 hA hx hm)
    exact bodyPost_ret (v := .slice p1 l.length c1) (by simp [results, Try.f61, go_sem]) rfl (Cloned.some_ hA hx hm)


set_option maxHeartbeats 400000 in
theorem cloneM (w : World) (p : Option Addr) (c : Nat) (l : List Mrg) (h : Rd eM w p l) (hb : l.length * 24 ≤ 140737488351232) :
    Calls Try.prog 62 #[.slice p l.length c] w fun e w' => Cloned eM 35 w p l e w' := by
  have hnil := fun W : World => Lib.run_eql_slice_nil (P := Try.prog) W 23 35 p l.length c 0 0 Try.underlying23
  have H := Lib.hid h
  cases p with
  | none =>
    have hl : l = [] := H.out.none_
    clear h H hb
    subst hl
    simp only [List.length_nil] at hnil ⊢
    go_enter Try.func62, Try.ntmps62
    go_wp2_with fail
    go_ret
    exact Cloned.nil_
  | some ad =>
    clear h
    go_enter Try.func62, Try.ntmps62
    go_wp2_with ((refine arr_append rfl (.tmp 5) (.tmp 6) 23 35 3 24 (.agg #[.int .i64 0, .int .i64 0, .int .i64 0]) rfl Try.underlying23 infoM rfl (by decide) (by decide) (some ⟨w.heap.size, 0, none⟩) 0 0 [] rfl (some ad) l.length c rfl (flat eM l) (flat_length eM l) (H.out.on ((Ext.refl _ w).alloc _)).src (fun h => by cases h) (flat_cells eM l) (arr_empty w 35 3) (by omega) ?_); intro p1 c1 w1 hA hx hm)
    exact bodyPost_ret (v := .slice p1 l.length c1) (by simp [results, Try.f62, go_sem]) rfl (Cloned.some_ hA hx hm)


set_option maxHeartbeats 400000 in
theorem cloneP (w : World) (p : Option Addr) (c : Nat) (l : List Spn) (h : Rd eP w p l) (hb : l.length * 8 ≤ 140737488351232) :
    Calls Try.prog 63 #[.slice p l.length c] w fun e w' => Cloned eP 94 w p l e w' := by
  have hnil := fun W : World => Lib.run_eql_slice_nil (P := Try.prog) W 24 94 p l.length c 0 0 Try.underlying24
  have H := Lib.hid h
  cases p with
  | none =>
    have hl : l = [] := H.out.none_
    clear h H hb
    subst hl
    simp only [List.length_nil] at hnil ⊢
    go_enter Try.func63, Try.ntmps63
    go_wp2_with fail
    go_ret
    exact Cloned.nil_
  | some ad =>
    clear h
    go_enter Try.func63, Try.ntmps63
    go_wp2_with ((refine arr_append rfl (.tmp 5) (.tmp 6) 24 94 2 8 (.agg #[.int .i32 0, .int .i32 0]) rfl Try.underlying24 infoP rfl (by decide) (by decide) (some ⟨w.heap.size, 0, none⟩) 0 0 [] rfl (some ad) l.length c rfl (flat eP l) (flat_length eP l) (H.out.on ((Ext.refl _ w).alloc _)).src (fun h => by cases h) (flat_cells eP l) (arr_empty w 94 2) (by omega) ?_); intro p1 c1 w1 hA hx hm)
    exact bodyPost_ret (v := .slice p1 l.length c1) (by simp [results, Try.f63, go_sem]) rfl (Cloned.some_ hA hx hm)

end Go.Proofs.Ytbepmbihonnkaaa.Sl

/- Spans, pure: right lists, what lies in them, where two meet, what is wrong with three. -/
namespace Go.Proofs.Ytbepmbihonnkaaa.Sl
set_option linter.unusedVariables false
set_option linter.unusedSimpArgs false

def valid (r : Int) : Bool := decide (0 ≤ r) && decide (r ≤ 1114111) && (decide (r < 55296) || decide (57343 < r))
theorem valid_iff {r : Int} : valid r = true ↔ 0 ≤ r ∧ r ≤ 1114111 ∧ (r < 55296 ∨ 57343 < r) := by
  simp [valid, and_assoc]
/-- What is wrong with a span behind another. -/
def bad1 (prev : Option Int) (x : Spn) : Int :=
  if valid x.lo && valid x.hi then (if x.hi < x.lo then 15 else match prev with
    | some h => if x.lo ≤ h then 15 else 0
    | none => 0) else 14
def rightGo : Nat → Option Int → List Spn → Int × Int
  | _, _, [] => (0, 0)
  | i, prev, x :: t => if bad1 prev x = 0 then rightGo (i + 1) (some x.hi) t else ((i : Int), bad1 prev x)
def right (l : List Spn) : Int × Int := rightGo 0 none l
/-- The lists that are right. -/
def Ok (l : List Spn) : Prop := (∀ x ∈ l, valid x.lo = true ∧ valid x.hi = true ∧ x.lo ≤ x.hi) ∧ l.Pairwise (fun x y => x.hi < y.lo)
theorem rightGo_ok {i : Nat} {prev : Option Int} {l : List Spn} (h : (rightGo i prev l).2 = 0) : Ok l ∧ ∀ p, prev = some p → ∀ x ∈ l, p < x.lo := by
  induction l generalizing i prev with
  | nil => exact ⟨⟨by simp, by simp⟩, by simp⟩
  | cons x t ih =>
    unfold rightGo at h
    by_cases hb : bad1 prev x = 0
    · rw [if_pos hb] at h
      obtain ⟨⟨h1, h2⟩, h3⟩ := ih h
      have h3 := h3 _ rfl
      unfold bad1 at hb
      by_cases hv : (valid x.lo && valid x.hi) = true
      · rw [if_pos hv] at hb
        have hv' := Bool.and_eq_true_iff.1 hv
        by_cases hh : x.hi < x.lo
        · rw [if_pos hh] at hb; omega
        · rw [if_neg hh] at hb
          have hp : ∀ p, prev = some p → p < x.lo := by
            rintro p rfl
            by_cases hq : x.lo ≤ p
            · simp [hq] at hb
            · omega
          refine ⟨⟨fun y hy => ?_, List.pairwise_cons.2 ⟨fun y hy => h3 y hy, h2⟩⟩, fun p hp' y hy => ?_⟩
          · rcases List.mem_cons.1 hy with rfl | hy
            · exact ⟨hv'.1, hv'.2, by omega⟩
            · exact h1 y hy
          · have := hp p hp'
            rcases List.mem_cons.1 hy with rfl | hy
            · exact this
            · have := h3 y hy; omega
      · rw [if_neg hv] at hb; omega
    · rw [if_neg hb] at h
      exact absurd h hb
theorem right_ok {l : List Spn} (h : (right l).2 = 0) : Ok l := (rightGo_ok h).1
theorem bad1_cases (prev : Option Int) (x : Spn) : bad1 prev x = 0 ∨ bad1 prev x = 14 ∨ bad1 prev x = 15 := by
  unfold bad1
  split
  · split
    · exact .inr (.inr rfl)
    · split
      · split
        · exact .inr (.inr rfl)
        · exact .inl rfl
      · exact .inl rfl
  · exact .inr (.inl rfl)
theorem rightGo_row {i : Nat} {prev : Option Int} {l : List Spn} (h : (rightGo i prev l).2 = 0) : rightGo i prev l = (0, 0) := by
  induction l generalizing i prev with
  | nil => rfl
  | cons x t ih =>
    unfold rightGo at h ⊢
    by_cases hb : bad1 prev x = 0
    · rw [if_pos hb] at h ⊢; exact ih h
    · rw [if_neg hb] at h; exact absurd h hb
theorem rightGo_why {i : Nat} {prev : Option Int} {l : List Spn} : (rightGo i prev l).2 = 0 ∨ (rightGo i prev l).2 = 14 ∨ (rightGo i prev l).2 = 15 := by
  induction l generalizing i prev with
  | nil => exact .inl rfl
  | cons x t ih =>
    unfold rightGo
    by_cases hb : bad1 prev x = 0
    · rw [if_pos hb]; exact ih
    · rw [if_neg hb]; exact bad1_cases prev x

def inn (l : List Spn) (r : Int) : Bool := valid r && l.any fun x => decide (x.lo ≤ r) && decide (r ≤ x.hi)
def touch (x y : Spn) : Bool := decide (x.lo ≤ y.hi) && decide (y.lo ≤ x.hi)
def firstGo (f : Spn → Bool) : Nat → List Spn → Int × Bool
  | _, [] => (0, false)
  | i, x :: t => if f x then ((i : Int), true) else firstGo f (i + 1) t
def meet (a b : List Spn) : Int × Bool := firstGo (fun x => b.any (touch x)) 0 a
/-- The first span that doesn't lie below r. -/
def find (l : List Spn) (r : Int) : Nat := l.findIdx fun x => decide (r ≤ x.hi)
theorem find_le (l : List Spn) (r : Int) : find l r ≤ l.length := List.findIdx_le_length
theorem find_lt {l : List Spn} {r : Int} {i : Nat} {x : Spn} (hi : i < find l r) (hx : l[i]? = some x) : x.hi < r := by
  have := List.not_of_lt_findIdx (p := fun x : Spn => decide (r ≤ x.hi)) (xs := l) hi
  obtain ⟨hl, rfl⟩ := List.getElem?_eq_some_iff.1 hx
  simpa using this
theorem find_at {l : List Spn} {r : Int} {x : Spn} (hx : l[find l r]? = some x) : r ≤ x.hi := by
  obtain ⟨hl, rfl⟩ := List.getElem?_eq_some_iff.1 hx
  have := List.findIdx_getElem (p := fun x : Spn => decide (r ≤ x.hi)) (xs := l) (w := hl)
  exact of_decide_eq_true this
theorem ok_mono {l : List Spn} (h : Ok l) {i j : Nat} {x y : Spn} (hij : i ≤ j) (hx : l[i]? = some x) (hy : l[j]? = some y) : x.hi ≤ y.hi ∧ x.lo ≤ y.lo ∧ (i < j → x.hi < y.lo) := by
  obtain ⟨hi, rfl⟩ := List.getElem?_eq_some_iff.1 hx
  obtain ⟨hj, rfl⟩ := List.getElem?_eq_some_iff.1 hy
  have ox := h.1 _ (List.getElem_mem hi)
  have oy := h.1 _ (List.getElem_mem hj)
  rcases Nat.eq_or_lt_of_le hij with rfl | hlt
  · exact ⟨by omega, by omega, fun h => by omega⟩
  · have := List.pairwise_iff_getElem.1 h.2 i j hi hj hlt
    exact ⟨by omega, by omega, fun _ => this⟩
/-- In a right list a span touches x, just where the first that doesn't lie below x does. -/
theorem touch_find {l : List Spn} (h : Ok l) (x : Spn) : l.any (touch x) = match l[find l x.lo]? with
    | some y => decide (y.lo ≤ x.hi)
    | none => false := by
  cases e : l[find l x.lo]? with
  | some y =>
    have h1 := find_at e
    by_cases hy : y.lo ≤ x.hi
    · simp only [hy, decide_true]
      rw [List.any_eq_true]
      exact ⟨y, List.mem_of_getElem? e, by simp [touch, h1, hy]⟩
    · simp only [hy, decide_false]
      rw [List.any_eq_false]
      intro z hz
      obtain ⟨i, hi, rfl⟩ := List.getElem_of_mem hz
      have ez := List.getElem?_eq_getElem hi
      by_cases hlt : i < find l x.lo
      · have := find_lt hlt ez
        simp [touch]; omega
      · have := (ok_mono h (by omega) e ez).2.1
        simp [touch]; omega
  | none =>
    rw [List.any_eq_false]
    intro z hz
    obtain ⟨i, hi, rfl⟩ := List.getElem_of_mem hz
    have := List.getElem?_eq_none_iff.1 e
    have := find_lt (l := l) (r := x.lo) (i := i) (by omega) (List.getElem?_eq_getElem hi)
    simp [touch]; omega
theorem inn_find {l : List Spn} (h : Ok l) (r : Int) : inn l r = (valid r && match l[find l r]? with
    | some y => decide (y.lo ≤ r)
    | none => false) := by
  have := touch_find h ⟨r, r⟩
  simp only [touch] at this
  unfold inn
  rw [← this]
  congr 1
  congr 1
  funext x
  exact Bool.and_comm _ _
theorem firstGo_none {f : Spn → Bool} {i : Nat} {l : List Spn} (h : ∀ x ∈ l, f x = false) : firstGo f i l = (0, false) := by
  induction l generalizing i with
  | nil => rfl
  | cons x t ih => unfold firstGo; rw [if_neg (by simp [h x (by simp)])]; exact ih (fun y hy => h y (by simp [hy]))
theorem firstGo_at {f : Spn → Bool} {i k : Nat} {l : List Spn} {x : Spn} (hk : l[k]? = some x) (hx : f x = true) (h : ∀ j y, j < k → l[j]? = some y → f y = false) : firstGo f i l = (((i + k : Nat) : Int), true) := by
  induction l generalizing i k with
  | nil => simp at hk
  | cons y t ih =>
    unfold firstGo
    cases k with
    | zero =>
      simp at hk
      subst hk
      rw [if_pos hx]; rfl
    | succ k =>
      rw [if_neg (by simp [h 0 y (by omega) (by simp)])]
      rw [ih (by simpa using hk) (fun j z hj hz => h (j + 1) z (by omega) (by simpa using hz))]
      rw [show i + 1 + k = i + (k + 1) by omega]
theorem firstGo_cases (f : Spn → Bool) (i : Nat) (l : List Spn) : firstGo f i l = (0, false) ∨ ∃ k, k < l.length ∧ firstGo f i l = (((i + k : Nat) : Int), true) := by
  induction l generalizing i with
  | nil => exact .inl rfl
  | cons x t ih =>
    unfold firstGo
    split
    · exact .inr ⟨0, by simp, rfl⟩
    · rcases ih (i + 1) with h | ⟨k, hk, h⟩
      · exact .inl h
      · exact .inr ⟨k + 1, by simpa using hk, by rw [h, show i + 1 + k = i + (k + 1) by omega]⟩

/-- What is wrong with three lists: why, list, row. -/
def check4 (ls ns ss : List Spn) : Int × Int × Int :=
  if 512 < ls.length then (4, 1, 512) else if 512 < ns.length then (4, 2, 512) else if 512 < ss.length then (4, 3, 512)
  else if (right ls).2 ≠ 0 then ((right ls).2, 1, (right ls).1) else if (right ns).2 ≠ 0 then ((right ns).2, 2, (right ns).1) else if (right ss).2 ≠ 0 then ((right ss).2, 3, (right ss).1)
  else if (meet ns ls).2 = true then (16, 2, (meet ns ls).1)
  else if (meet ss ls).2 = true then (if (meet ss ns).2 = true then (16, 3, min (meet ss ls).1 (meet ss ns).1) else (16, 3, (meet ss ls).1))
  else if (meet ss ns).2 = true then (16, 3, (meet ss ns).1)
  else if inn ss 32 = false ∨ inn ls 39 = true ∨ inn ns 39 = true ∨ inn ss 39 = true then (20, 3, 0) else (0, 0, 0)
end Go.Proofs.Ytbepmbihonnkaaa.Sl
