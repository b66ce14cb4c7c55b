/- A book of lists (tesserabook.Book): what it holds, and what each of its writings leaves; beside other books (N: what belongs to these; R: where its lists lie). -/
import Derived.Test.YtigpaaelggnffaaGreatDoorWithin1
import Derived.Test.YtigpaaelggnffaaGreatDoorSpanPure
namespace Go.Proofs.YtigpaaelggnffaaGreatDoor.Bq
open Go.RowKit Go.Proofs.YtigpaaelggnffaaGreatDoor.Lib Go.Proofs.YtigpaaelggnffaaGreatDoor.Sl
set_option linter.unusedVariables false
set_option linter.unusedSimpArgs false

/-- A list that is kept, and its copy. -/
structure Ent (α : Type) where
  p : Option Addr
  c : Nat
  q : Option Addr
  d : Nat
  xs : List α
def Ent.l {α : Type} (e : Ent α) : Value := .slice e.p e.xs.length e.c
def Ent.w {α : Type} (e : Ent α) : Value := .slice e.q e.xs.length e.d

theorem _root_.Go.Proofs.YtigpaaelggnffaaGreatDoor.Lib.Win.lt {w : World} {p : Option Addr} {n c : Nat} {cs : List Value} (h : Win w p n c cs) {k : Nat} (hk : blkOf p = some k) : k < w.heap.size := by
  rcases h.at_ with ⟨rfl, _⟩ | ⟨g, off, rfl, hg, _⟩
  · cases hk
  · have : g = k := Option.some.inj hk
    omega
theorem _root_.Go.Proofs.YtigpaaelggnffaaGreatDoor.Lib.Win.get {w : World} {p : Option Addr} {n c : Nat} {cs : List Value} (h : Win w p n c cs) {i : Nat} {v : Value} (hi : cs[i]? = some v) : ∃ g off, p = some ⟨g, off, none⟩ ∧ w.cell? ⟨g, off + i, none⟩ = some v ∧ i < n ∧ n ≤ c := by
  have hl := (List.getElem?_eq_some_iff.1 hi).1
  have h1 := h.len
  have h2 := h.le
  rcases h.at_ with ⟨rfl, h0⟩ | ⟨g, off, rfl, hg, hc, _⟩
  · omega
  · exact ⟨g, off, rfl, hc i v hi, by omega, h2⟩
theorem _root_.Go.Proofs.YtigpaaelggnffaaGreatDoor.Lib.Win.at0 {w : World} {g off n c : Nat} {v : Value} {cs : List Value} (h : Win w (some ⟨g, off, none⟩) n c (v :: cs)) : w.cell? ⟨g, off, none⟩ = some v := by
  obtain ⟨g', off', h3, h4, _⟩ := h.get (i := 0) rfl
  injection h3 with h3
  injection h3 with h31 h32
  subst h31 h32
  simpa using h4
theorem _root_.Go.Proofs.YtigpaaelggnffaaGreatDoor.Lib.Win.tail' {w : World} {g off n c : Nat} {v : Value} {cs : List Value} (h : Win w (some ⟨g, off, none⟩) (n + 1) c (v :: cs)) : Win w (some ⟨g, off + 1, none⟩) n (c - 1) cs := by
  obtain ⟨g', off', h3, h4⟩ := h.tail
  injection h3 with h3
  injection h3 with h31 h32
  subst h31 h32
  exact h4

/-- The book's own memory: S its blocks. -/
structure Bx (bt : Nat) (S : Nat → Prop) (w : World) (b : Nat) (pl : Option Addr) (nl cl : Nat) (LS : List Value) (pw : Option Addr) (nw cw : Nat) (WS : List Value) (H : Int) : Prop where
  box : w.heap[b]? = some (.cells #[.slice pl nl cl, .slice pw nw cw, .int .i64 H, .bool false] bt (0, 0))
  ls : Win w pl nl cl LS
  ws : Win w pw nw cw WS
  sb : S b
  sl : ∀ k, blkOf pl = some k → S k ∧ k ≠ b ∧ blkOf pw ≠ some k
  sw : ∀ k, blkOf pw = some k → S k ∧ k ≠ b
  lt : ∀ k, S k → k < w.heap.size
section
variable {bt : Nat} {S : Nat → Prop} {w w1 : World} {b : Nat} {pl pw p1 : Option Addr} {nl cl nw cw c1 : Nat} {LS WS : List Value} {H : Int} {v : Value}
theorem Bx.cells (h : Bx bt S w b pl nl cl LS pw nw cw WS H) : w.cell? ⟨b, 0, none⟩ = some (.slice pl nl cl) ∧ w.cell? ⟨b, 1, none⟩ = some (.slice pw nw cw) ∧ w.cell? ⟨b, 2, none⟩ = some (.int .i64 H) ∧ w.cell? ⟨b, 3, none⟩ = some (.bool false) :=
  ⟨blk_cell h.box 0, blk_cell h.box 1, blk_cell h.box 2, blk_cell h.box 3⟩
theorem Bx.free (h : Bx bt S w b pl nl cl LS pw nw cw WS H) (i : Nat) : w.frozen? ⟨b, i, none⟩ = false := blk_frozen h.box i
theorem Bx.on (h : Bx bt S w b pl nl cl LS pw nw cw WS H) (hx : Ext (fun _ => False) w w1) : Bx bt S w1 b pl nl cl LS pw nw cw WS H :=
  ⟨hx.obj h.box (fun h => h), h.ls.on hx (fun _ _ h => h), h.ws.on hx (fun _ _ h => h), h.sb, h.sl, h.sw, fun k hk => Nat.lt_of_lt_of_le (h.lt k hk) hx.size⟩
theorem Bx.off {T : Nat → Prop} (h : Bx bt S w b pl nl cl LS pw nw cw WS H) (hx : Ext T w w1) (hT : ∀ k, T k → ¬ S k) : Bx bt S w1 b pl nl cl LS pw nw cw WS H :=
  ⟨hx.obj h.box (fun k => hT _ k h.sb), h.ls.on hx (fun k hk t => hT k t (h.sl k hk).1), h.ws.on hx (fun k hk t => hT k t (h.sw k hk).1), h.sb, h.sl, h.sw, fun k hk => Nat.lt_of_lt_of_le (h.lt k hk) hx.size⟩
theorem ext_box (w : World) (b i : Nat) (v : Value) : Ext (fun k => k = b) w (w.setCell ⟨b, i, none⟩ v) := (Ext.refl (fun k => k = b) w).setCell (p := ⟨b, i, none⟩) (fun _ => rfl) v
theorem Bx.putL (h : Bx bt S w b pl nl cl LS pw nw cw WS H) (hW : Win w1 p1 (nl + 1) c1 (LS ++ [v])) (hx : Ext (fun k => blkOf pl = some k) w w1) (hm : Moved w pl p1) :
    Bx bt (fun k => S k ∨ blkOf p1 = some k) (w1.setCell ⟨b, 0, none⟩ (.slice p1 (nl + 1) c1)) b p1 (nl + 1) c1 (LS ++ [v]) pw nw cw WS H ∧ Ext S w (w1.setCell ⟨b, 0, none⟩ (.slice p1 (nl + 1) c1)) := by
  have hb := blk_lt h.box
  have hx2 := ext_box w1 b 0 (.slice p1 (nl + 1) c1)
  have hp1 : ∀ k, blkOf p1 = some k → k ≠ b ∧ blkOf pw ≠ some k := fun k hk => by
    rcases hm k hk with h1 | h1
    · exact (h.sl k h1).2
    · exact ⟨by omega, fun e => by have := h.ws.lt e; omega⟩
  have hbox := hx.obj h.box (fun e => (h.sl b e).2.1 rfl)
  refine ⟨⟨?_, hW.on hx2 (fun k hk => (hp1 k hk).1), (h.ws.on hx (fun k hk e => (h.sl k e).2.2 hk)).on hx2 (fun k hk => (h.sw k hk).2), .inl h.sb, fun k hk => ⟨.inr hk, hp1 k hk⟩, fun k hk => ⟨.inl (h.sw k hk).1, (h.sw k hk).2⟩, fun k hk => ?_⟩, ?_⟩
  · have := blk_set hbox 0 (.slice p1 (nl + 1) c1)
    simpa using this
  · have hz : (w1.setCell ⟨b, 0, none⟩ (.slice p1 (nl + 1) c1)).heap.size = w1.heap.size := by simp
    rw [hz]
    rcases hk with hk | hk
    · exact Nat.lt_of_lt_of_le (h.lt k hk) hx.size
    · exact hW.lt hk
  · exact (hx.mono (fun k hk => (h.sl k hk).1)).trans (hx2.mono (S' := S) (fun k hk => hk ▸ h.sb)) (fun _ _ h => h)
theorem Bx.putW (h : Bx bt S w b pl nl cl LS pw nw cw WS H) (hW : Win w1 p1 (nw + 1) c1 (WS ++ [v])) (hx : Ext (fun k => blkOf pw = some k) w w1) (hm : Moved w pw p1) :
    Bx bt (fun k => S k ∨ blkOf p1 = some k) (w1.setCell ⟨b, 1, none⟩ (.slice p1 (nw + 1) c1)) b pl nl cl LS p1 (nw + 1) c1 (WS ++ [v]) H ∧ Ext S w (w1.setCell ⟨b, 1, none⟩ (.slice p1 (nw + 1) c1)) := by
  have hb := blk_lt h.box
  have hx2 := ext_box w1 b 1 (.slice p1 (nw + 1) c1)
  have hp1 : ∀ k, blkOf p1 = some k → k ≠ b ∧ blkOf pl ≠ some k := fun k hk => by
    rcases hm k hk with h1 | h1
    · exact ⟨(h.sw k h1).2, fun e => (h.sl k e).2.2 h1⟩
    · exact ⟨by omega, fun e => by have := h.ls.lt e; omega⟩
  have hbox := hx.obj h.box (fun e => (h.sw b e).2 rfl)
  refine ⟨⟨?_, (h.ls.on hx (fun k hk => (h.sl k hk).2.2)).on hx2 (fun k hk => (h.sl k hk).2.1), hW.on hx2 (fun k hk => (hp1 k hk).1), .inl h.sb, fun k hk => ⟨.inl (h.sl k hk).1, (h.sl k hk).2.1, fun e => (hp1 k e).2 hk⟩, fun k hk => ⟨.inr hk, (hp1 k hk).1⟩, fun k hk => ?_⟩, ?_⟩
  · have := blk_set hbox 1 (.slice p1 (nw + 1) c1)
    simpa using this
  · have hz : (w1.setCell ⟨b, 1, none⟩ (.slice p1 (nw + 1) c1)).heap.size = w1.heap.size := by simp
    rw [hz]
    rcases hk with hk | hk
    · exact Nat.lt_of_lt_of_le (h.lt k hk) hx.size
    · exact hW.lt hk
  · exact (hx.mono (fun k hk => (h.sw k hk).1)).trans (hx2.mono (S' := S) (fun k hk => hk ▸ h.sb)) (fun _ _ h => h)
theorem Bx.putB (h : Bx bt S w b pl nl cl LS pw nw cw WS H) {p2 : Option Addr} {n2 c2 : Nat} {L2 : List Value} {p3 : Option Addr} {n3 c3 : Nat} {W3 : List Value} {H2 : Int} {i : Nat} {v : Value}
    (e : (#[.slice pl nl cl, .slice pw nw cw, .int .i64 H, .bool false] : Array Value).setIfInBounds i v = #[.slice p2 n2 c2, .slice p3 n3 c3, .int .i64 H2, .bool false])
    (hl : Win w p2 n2 c2 L2) (hw : Win w p3 n3 c3 W3) (e2 : blkOf p2 = blkOf pl) (e3 : blkOf p3 = blkOf pw) : Bx bt S (w.setCell ⟨b, i, none⟩ v) b p2 n2 c2 L2 p3 n3 c3 W3 H2 ∧ Ext S w (w.setCell ⟨b, i, none⟩ v) := by
  have hx2 := ext_box w b i v
  refine ⟨⟨?_, hl.on hx2 (fun k hk => (h.sl k (e2 ▸ hk)).2.1), hw.on hx2 (fun k hk => (h.sw k (e3 ▸ hk)).2), h.sb, fun k hk => ⟨(h.sl k (e2 ▸ hk)).1, (h.sl k (e2 ▸ hk)).2.1, fun x => (h.sl k (e2 ▸ hk)).2.2 (e3 ▸ x)⟩, fun k hk => h.sw k (e3 ▸ hk), fun k hk => ?_⟩, hx2.mono (S' := S) (fun k hk => hk ▸ h.sb)⟩
  · rw [← e]
    exact blk_set h.box i v
  · have hz : (w.setCell ⟨b, i, none⟩ v).heap.size = w.heap.size := by simp
    rw [hz]
    exact h.lt k hk
end

/-- A list that is kept lies apart from A, in R. -/
structure One {α : Type} (E : En α) (et : Nat) (A R : Nat → Prop) (w : World) (e : Ent α) : Prop where
  arr : Arr w et E.sz e.p e.xs.length e.c (flat E e.xs)
  cop : Rd E w e.q e.xs
  np : ∀ k, blkOf e.p = some k → ¬ A k ∧ R k
  nq : ∀ k, blkOf e.q = some k → ¬ A k ∧ k < w.heap.size
  bd : e.xs.length ≤ 1125899906842624
structure Es {α : Type} (E : En α) (et : Nat) (A R : Nat → Prop) (w : World) (es : List (Ent α)) : Prop where
  one : ∀ e ∈ es, One E et A R w e
  ap : es.Pairwise fun e f => ∀ k, blkOf e.p = some k → blkOf f.p ≠ some k
section
variable {α : Type} {E : En α} {et : Nat} {A A' R R' U : Nat → Prop} {w w1 : World} {e : Ent α} {es : List (Ent α)}
theorem One.ext (h : One E et A R w e) (hx : Ext U w w1) (hU : ∀ k, U k → A k) (hS : ∀ k, A' k → A k ∨ w.heap.size ≤ k) (hT : ∀ k, R k → R' k) : One E et A' R' w1 e :=
  ⟨arr_ext h.arr hx (fun k hk s => (h.np k hk).1 (hU k s)), h.cop.ext hx (fun k hk _ s => (h.nq k hk).1 (hU k s)),
   fun k hk => ⟨fun s => (hS k s).elim (h.np k hk).1 (fun x => by have := arr_lt h.arr hk; omega), hT k (h.np k hk).2⟩,
   fun k hk => ⟨fun s => (hS k s).elim (h.nq k hk).1 (fun x => by have := (h.nq k hk).2; omega), Nat.lt_of_lt_of_le (h.nq k hk).2 hx.size⟩, h.bd⟩
theorem Es.ext (h : Es E et A R w es) (hx : Ext U w w1) (hU : ∀ k, U k → A k) (hS : ∀ k, A' k → A k ∨ w.heap.size ≤ k) (hT : ∀ k, R k → R' k) : Es E et A' R' w1 es :=
  ⟨fun e he => (h.one e he).ext hx hU hS hT, h.ap⟩
theorem Es.on (h : Es E et A R w es) (hx : Ext (fun _ => False) w w1) : Es E et A R w1 es := h.ext hx (fun _ h => h.elim) (fun _ h => .inl h) (fun _ h => h)
theorem Es.nil : Es E et A R w [] := ⟨(fun _ h => by cases h), List.Pairwise.nil⟩
theorem Es.tail (h : Es E et A R w (e :: es)) : Es E et A R w es := ⟨fun x hx => h.one x (.tail _ hx), (List.pairwise_cons.1 h.ap).2⟩
theorem Es.add (h : Es E et A R w es) (ho : One E et A R' w e) (hT : ∀ k, blkOf e.p = some k → ¬ R k) (hTT : ∀ k, R k → R' k) : Es E et A R' w (es ++ [e]) := by
  refine ⟨fun x hx => ?_, ?_⟩
  · rcases List.mem_append.1 hx with hx | hx
    · have := h.one x hx
      exact { this with np := fun k hk => ⟨(this.np k hk).1, hTT k (this.np k hk).2⟩ }
    · obtain rfl : x = e := by simpa using hx
      exact ho
  · rw [List.pairwise_append]
    refine ⟨h.ap, by simp, fun a ha b hb k hk hk2 => ?_⟩
    obtain rfl : b = e := by simpa using hb
    exact hT k hk2 ((h.one a ha).np k hk).2
end
/-- The book: its memory and its lists. -/
structure Book {α : Type} (E : En α) (et bt : Nat) (S N R : Nat → Prop) (w : World) (b : Nat) (es : List (Ent α)) (pl : Option Addr) (cl : Nat) (pw : Option Addr) (cw : Nat) (H : Int) : Prop where
  bx : Bx bt S w b pl es.length cl (es.map Ent.l) pw es.length cw (es.map Ent.w) H
  es : Es E et (fun k => S k ∨ N k) R w es
def IsBook {α : Type} (E : En α) (et bt : Nat) (S N R : Nat → Prop) (w : World) (b : Nat) (n : Nat) : Prop := ∃ (es : List (Ent α)) (pl : Option Addr) (cl : Nat) (pw : Option Addr) (cw : Nat) (H : Int), es.length ≤ n ∧ Book E et bt S N R w b es pl cl pw cw H
section
variable {α : Type} {E : En α} {et bt : Nat} {S N N' R U : Nat → Prop} {w w1 : World} {b n : Nat} {es : List (Ent α)} {pl : Option Addr} {cl : Nat} {pw : Option Addr} {cw : Nat} {H : Int}
theorem Book.on (h : Book E et bt S N R w b es pl cl pw cw H) (hx : Ext (fun _ => False) w w1) : Book E et bt S N R w1 b es pl cl pw cw H :=
  ⟨h.bx.on hx, h.es.on hx⟩
theorem IsBook.on (h : IsBook E et bt S N R w b n) (hx : Ext (fun _ => False) w w1) : IsBook E et bt S N R w1 b n := by
  obtain ⟨es, pl, cl, pw, cw, H, hn, h⟩ := h
  exact ⟨es, pl, cl, pw, cw, H, hn, h.on hx⟩
/-- What another book writes. -/
theorem IsBook.far (h : IsBook E et bt S N R w b n) (hx : Ext U w w1) (hU : ∀ k, U k → N k) (hs : ∀ k, U k → ¬ S k) (hN : ∀ k, N' k → N k ∨ w.heap.size ≤ k) : IsBook E et bt S N' R w1 b n := by
  obtain ⟨es, pl, cl, pw, cw, H, hn, h⟩ := h
  exact ⟨es, pl, cl, pw, cw, H, hn, h.bx.off hx hs, h.es.ext hx (fun k hk => .inr (hU k hk)) (fun k hk => hk.elim (fun s => .inl (.inl s)) (fun s => (hN k s).elim (fun h => .inl (.inr h)) .inr)) (fun _ h => h)⟩
theorem IsBook.slt (h : IsBook E et bt S N R w b n) : ∀ x, S x → x < w.heap.size := by
  obtain ⟨es, pl, cl, pw, cw, H, h1, h2⟩ := h
  exact h2.bx.lt
/-- A new book. -/
theorem IsBook.new (h : w.heap[b]? = some (.cells #[.slice none 0 0, .slice none 0 0, .int .i64 0, .bool false] bt (0, 0))) : IsBook E et bt (fun k => k = b) N R w b 0 :=
  ⟨[], none, 0, none, 0, 0, Nat.le_refl _, ⟨h, Win.nil _, Win.nil _, rfl, (fun k hk => by cases hk), (fun k hk => by cases hk), (fun k hk => by subst hk; exact blk_lt h)⟩, Es.nil⟩
end

/-! ### Apart: each list written full, with a mark of its own -/
theorem arr_full {w : World} {e sz n c : Nat} {p : Option Addr} {cs : List Value} (h : Arr w e sz p n c cs) : ∃ cs', Arr w e sz p c c cs' := by
  rcases h.2 with ⟨hv, h0⟩ | ⟨g, cap, cur, hv, hb, hgg, h1, h2, h3, h4⟩
  · injection hv with hv1 hv2 hv3
    subst hv1 hv3
    exact ⟨[], arr_nil _ _ _⟩
  · injection hv with hv1 hv2 hv3
    subst hv1 hv3
    refine ⟨cur.toList, by simp [h3], .inr ⟨g, c, cur, rfl, hb, hgg, Nat.le_refl _, h2, h3, ?_⟩⟩
    exact List.take_of_length_le (by rw [Array.length_toList, h3]; exact Nat.le_refl _)
def marks {α : Type} (mk : Nat → Nat → α) (i n : Nat) : List α := (List.range n).map (mk i)
theorem marks_succ {α : Type} (mk : Nat → Nat → α) (i n : Nat) : marks mk i (n + 1) = marks mk i n ++ [mk i n] := by simp [marks, List.range_succ]
theorem marks_length {α : Type} (mk : Nat → Nat → α) (i n : Nat) : (marks mk i n).length = n := by simp [marks]
theorem marks_get {α : Type} (mk : Nat → Nat → α) (i n j : Nat) (h : j < n) : (marks mk i n)[j]? = some (mk i j) := by simp [marks, h]
/-- Which entries are written: the first k of them, of entry k the first j places. -/
structure MkSt {α : Type} (E : En α) (et bt : Nat) (S : Nat → Prop) (w wr : World) (b : Nat) (es : List (Ent α)) (pl : Option Addr) (cl : Nat) (pw : Option Addr) (cw : Nat) (H : Int) (mk : Nat → Nat → α) (k j : Nat) : Prop where
  bx : Bx bt S wr b pl es.length cl (es.map Ent.l) pw es.length cw (es.map Ent.w) H
  row : ∀ i e, es[i]? = some e → ∃ cs, Arr wr et E.sz e.p e.c e.c cs ∧ (i < k → cs = flat E (marks mk i e.c)) ∧ (i = k → ∃ R, cs = flat E (marks mk i j) ++ R)
  ext : Ext (fun x => ∃ e ∈ es, blkOf e.p = some x) w wr
section
variable {α : Type} {E : En α} {et bt : Nat} {S N R : Nat → Prop} {w wr w1 : World} {b : Nat} {es : List (Ent α)} {pl : Option Addr} {cl : Nat} {pw : Option Addr} {cw : Nat} {H : Int} {mk : Nat → Nat → α} {k j : Nat}
theorem MkSt.begin (h : Book E et bt S N R w b es pl cl pw cw H) : MkSt E et bt S w w b es pl cl pw cw H mk 0 0 := by
  refine ⟨h.bx, fun i e he => ?_, Ext.refl _ _⟩
  obtain ⟨cs, hc⟩ := arr_full (h.es.one e (List.mem_of_getElem? he)).arr
  exact ⟨cs, hc, fun h => by omega, fun _ => ⟨cs, by simp [marks, flat_nil]⟩⟩
theorem MkSt.on (h : MkSt E et bt S w wr b es pl cl pw cw H mk k j) (hx : Ext (fun _ => False) wr w1) : MkSt E et bt S w w1 b es pl cl pw cw H mk k j := by
  refine ⟨h.bx.on hx, fun i e he => ?_, h.ext.trans hx (fun _ _ h => h.elim)⟩
  obtain ⟨cs, hc, h1, h2⟩ := h.row i e he
  exact ⟨cs, arr_ext hc hx (fun _ _ h => h), h1, h2⟩
/-- One place more. -/
theorem MkSt.step (h : MkSt E et bt S w wr b es pl cl pw cw H mk k j) (hs : Es E et (fun k => S k ∨ N k) R w es) {e : Ent α} (he : es[k]? = some e) {a : Nat} (hp : e.p = some ⟨a, 0, none⟩) (hx : Ext (fun x => x = a) wr w1) (hA : ∃ R, Arr w1 et E.sz (some ⟨a, 0, none⟩) e.c e.c (flat E (marks mk k (j + 1)) ++ R)) : MkSt E et bt S w w1 b es pl cl pw cw H mk k (j + 1) := by
  have ho := hs.one e (List.mem_of_getElem? he)
  have ha := ho.np a (by rw [hp]; rfl)
  refine ⟨h.bx.off hx (fun x hx => hx ▸ fun s => ha.1 (.inl s)), fun i f hf => ?_, h.ext.trans hx (fun i _ hi => ⟨e, List.mem_of_getElem? he, by rw [hp, hi]; rfl⟩)⟩
  by_cases hik : i = k
  · subst hik
    obtain rfl : f = e := Option.some.inj (hf.symm.trans he)
    obtain ⟨R, hR⟩ := hA
    exact ⟨_, hp ▸ hR, fun h => by omega, fun _ => ⟨R, rfl⟩⟩
  · obtain ⟨cs, hc, h1, h2⟩ := h.row i f hf
    refine ⟨cs, arr_ext hc hx (fun x hx2 e2 => ?_), h1, fun h => absurd h hik⟩
    subst e2
    have hi := (List.getElem?_eq_some_iff.1 hf)
    have hk := (List.getElem?_eq_some_iff.1 he)
    have hpa := List.pairwise_iff_getElem.1 hs.ap
    rcases Nat.lt_or_gt_of_ne hik with hlt | hlt
    · have := hpa i k hi.1 hk.1 hlt x (by rw [hi.2]; exact hx2)
      rw [hk.2, hp] at this
      exact this rfl
    · have := hpa k i hk.1 hi.1 hlt x (by rw [hk.2, hp]; rfl)
      rw [hi.2] at this
      exact this hx2
/-- An entry more. -/
theorem MkSt.next (h : MkSt E et bt S w wr b es pl cl pw cw H mk k j) {e : Ent α} (he : es[k]? = some e) (hj : j = e.c) : MkSt E et bt S w wr b es pl cl pw cw H mk (k + 1) 0 := by
  refine ⟨h.bx, fun i f hf => ?_, h.ext⟩
  obtain ⟨cs, hc, h1, h2⟩ := h.row i f hf
  refine ⟨cs, hc, fun hi => ?_, fun _ => ⟨cs, by simp [marks, flat_nil]⟩⟩
  by_cases hik : i = k
  · subst hik
    obtain rfl : f = e := Option.some.inj (hf.symm.trans he)
    obtain ⟨R, hR⟩ := h2 rfl
    subst hj
    have hl := arr_len hc
    rw [hR, List.length_append, flat_length, marks_length] at hl
    have : R = [] := List.eq_nil_of_length_eq_zero (by omega)
    rw [hR, this, List.append_nil]
  · exact h1 (by omega)
theorem MkSt.all (h : MkSt E et bt S w wr b es pl cl pw cw H mk es.length 0) {i : Nat} {e : Ent α} (he : es[i]? = some e) : Arr wr et E.sz e.p e.c e.c (flat E (marks mk i e.c)) := by
  obtain ⟨cs, hc, h1, _⟩ := h.row i e he
  have := (List.getElem?_eq_some_iff.1 he).1
  rw [← h1 this]
  exact hc
end
/-! ### a mark of several cells -/
/-- Values laid side by side. -/
def putAt (w : World) (a : Nat) : Nat → List Value → World
  | _, [] => w
  | i, v :: t => putAt (w.setCell ⟨a, i, none⟩ v) a (i + 1) t
theorem putAt_ext (a : Nat) : ∀ (l : List Value) (w : World) (i : Nat), Ext (fun x => x = a) w (putAt w a i l)
  | [], w, _ => Ext.refl _ w
  | v :: t, w, i => (ext_box w a i v).trans (putAt_ext a t _ (i + 1)) (fun _ _ h => h)
theorem putAt_arr {e sz n c a : Nat} : ∀ (l : List Value) (w : World) (pre R : List Value), Arr w e sz (some ⟨a, 0, none⟩) n c (pre ++ R) → l.length ≤ R.length → Arr (putAt w a pre.length l) e sz (some ⟨a, 0, none⟩) n c (pre ++ l ++ R.drop l.length)
  | [], w, pre, R, h, _ => by simpa [putAt] using h
  | v :: t, w, pre, [], h, hl => by simp at hl
  | v :: t, w, pre, r :: R, h, hl => by
    have h1 := arr_set h pre.length v
    rw [List.set_append_right _ _ (Nat.le_refl _), Nat.sub_self, List.set_cons_zero] at h1
    have h2 := putAt_arr t (w.setCell ⟨a, pre.length, none⟩ v) (pre ++ [v]) R (by simpa using h1) (by simpa using hl)
    rw [List.length_append, List.length_cons, List.length_nil] at h2
    simpa [putAt] using h2
section
variable {α : Type} {E : En α} {et bt : Nat} {S N R : Nat → Prop} {w wr : World} {b : Nat} {es : List (Ent α)} {pl : Option Addr} {cl : Nat} {pw : Option Addr} {cw : Nat} {H : Int} {mk : Nat → Nat → α} {k j : Nat}
theorem MkSt.stepG {sz : Nat} (h : MkSt E et bt S w wr b es pl cl pw cw H mk k j) (hsz : E.sz = sz) (hs : Es E et (fun k => S k ∨ N k) R w es) {e : Ent α} (he : es[k]? = some e) {a : Nat} (hp : e.p = some ⟨a, 0, none⟩) (hj : j < e.c) :
    MkSt E et bt S w (putAt wr a (j * sz) (E.enc (mk k j))) b es pl cl pw cw H mk k (j + 1) ∧ ∀ i, i < sz → (∃ u, wr.cell? ⟨a, j * sz + i, none⟩ = some u) ∧ wr.frozen? ⟨a, j * sz + i, none⟩ = false := by
  obtain ⟨cs, hc, _, h2⟩ := h.row k e he
  obtain ⟨Q, rfl⟩ := h2 rfl
  rw [hp] at hc
  have hl := arr_len hc
  have hfl : (flat E (marks mk k j)).length = j * sz := by rw [flat_length, marks_length, hsz]
  have hen : (E.enc (mk k j)).length = sz := by rw [← hsz]; exact E.len _
  rw [List.length_append, hfl, hsz] at hl
  have hm : (j + 1) * sz ≤ e.c * sz := Nat.mul_le_mul_right _ hj
  rw [Nat.succ_mul] at hm
  have hq : sz ≤ Q.length := by omega
  refine ⟨h.step hs he hp (putAt_ext a _ wr _) ⟨Q.drop sz, ?_⟩, fun i hi => ⟨?_, arr_frozen hc _⟩⟩
  · have := putAt_arr (E.enc (mk k j)) wr (flat E (marks mk k j)) Q hc (by rw [hen]; exact hq)
    rw [hfl, hen] at this
    rw [marks_succ, flat_append, flat_one]
    exact this
  · rw [arr_cell hc _ (by rw [hsz]; omega)]
    exact ⟨_, List.getElem?_eq_getElem (by rw [List.length_append, hfl]; omega)⟩
end
end Go.Proofs.YtigpaaelggnffaaGreatDoor.Bq
