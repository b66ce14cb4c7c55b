/- Two books side by side, of rows and of numbers. -/
import Derived.Test.YtigpaaelggnffaaGreatDoorApartI
import Derived.Test.YtigpaaelggnffaaGreatDoorApartT
namespace Go.Proofs.YtigpaaelggnffaaGreatDoor.Bq
open Go.RowKit Go.Proofs.YtigpaaelggnffaaGreatDoor.Lib Go.Proofs.YtigpaaelggnffaaGreatDoor.Sl Go.Proofs.YtigpaaelggnffaaGreatDoor.Ty
set_option linter.unusedVariables false
set_option linter.unusedSimpArgs false

structure Two (w wr : World) (b1 b2 n1 n2 : Nat) (S1 R1 S2 R2 : Nat → Prop) : Prop where
  a : IsBook eTR 45 56 S1 (fun k => S2 k ∨ R2 k) R1 wr b1 n1
  b : IsBook eI 3 59 S2 (fun k => S1 k ∨ R1 k) R2 wr b2 n2
  lt : ∀ k, (S1 k ∨ R1 k) ∨ (S2 k ∨ R2 k) → w.heap.size ≤ k ∧ k < wr.heap.size
  ap : ∀ k, S1 k ∨ R1 k → ¬ (S2 k ∨ R2 k)
  ext : Ext (fun _ => False) w wr
/-- Books that were begun behind w. -/
def Kp2 (w wr : World) (b1 b2 n1 n2 : Nat) : Prop := ∃ S1 R1 S2 R2 : Nat → Prop, Two w wr b1 b2 n1 n2 S1 R1 S2 R2
theorem Kp2.ext {w wr : World} {b1 b2 n1 n2 : Nat} (h : Kp2 w wr b1 b2 n1 n2) : Ext (fun _ => False) w wr := by
  obtain ⟨_, _, _, _, h⟩ := h
  exact h.ext
theorem Kp2.on {w wr w1 : World} {b1 b2 n1 n2 : Nat} (h : Kp2 w wr b1 b2 n1 n2) (hx : Ext (fun _ => False) wr w1) : Kp2 w w1 b1 b2 n1 n2 := by
  obtain ⟨S1, R1, S2, R2, h⟩ := h
  exact ⟨S1, R1, S2, R2, h.a.on hx, h.b.on hx, fun k hk => ⟨(h.lt k hk).1, Nat.lt_of_lt_of_le (h.lt k hk).2 hx.size⟩, h.ap, h.ext.trans hx (fun _ _ h => h)⟩
theorem Kp2.new {w : World} : Kp2 w ((w.alloc (.cells #[.slice none 0 0, .slice none 0 0, .int .i64 0, .bool false] 56)).alloc (.cells #[.slice none 0 0, .slice none 0 0, .int .i64 0, .bool false] 59)) w.heap.size (w.heap.size + 1) 0 0 := by
  have h1 := heap_alloc_new w (.cells #[.slice none 0 0, .slice none 0 0, .int .i64 0, .bool false] 56)
  have h2 := heap_alloc_new (w.alloc (.cells #[.slice none 0 0, .slice none 0 0, .int .i64 0, .bool false] 56)) (.cells #[.slice none 0 0, .slice none 0 0, .int .i64 0, .bool false] 59)
  rw [World.size_alloc] at h2
  refine ⟨fun k => k = w.heap.size, fun _ => False, fun k => k = w.heap.size + 1, fun _ => False, IsBook.new (blk_alloc h1 _), IsBook.new h2, fun k hk => ?_, fun k hk h => ?_, ((Ext.refl _ _).alloc _).alloc _⟩
  · rw [World.size_alloc, World.size_alloc]
    rcases hk with (h | h) | (h | h) <;> first | exact h.elim | (subst h; omega)
  · rcases hk with h1 | h1
    · rcases h with h | h
      · omega
      · exact h
    · exact h1
theorem Kp2.keep1 {w w0 wr : World} {b1 b2 n1 n2 : Nat} (h : Kp2 w w0 b1 b2 n1 n2) (hx : Ext (fun _ => False) w0 wr) {p : Option Addr} {c : Nat} {xs : List TRow} (hA : Arr wr 45 2 p xs.length c (flat eTR xs)) (hp : ∀ k, blkOf p = some k → w0.heap.size ≤ k) (hn : n1 < 1000) (hl : xs.length ≤ 1048576) :
    Calls Tryz.prog 26 #[.pointer (some ⟨b1, 0, none⟩), .slice p xs.length c] wr fun e w' => e = .returned (.tuple #[]) ∧ Kp2 w w' b1 b2 (n1 + 1) n2 := by
  obtain ⟨S1, R1, S2, R2, h⟩ := h
  have hz := hx.size
  refine (keepT_any (R' := fun k => R1 k ∨ blkOf p = some k) (h.a.on hx) hn hA (fun k hk => ⟨fun s => ?_, fun s => ?_, .inr hk⟩) (fun k hk => ?_) (fun k hk => .inl hk) (by omega) (by omega)).mono ?_
  · have h1 := hp k hk
    have h2 := h.lt k (s.elim (fun s => .inl (.inl s)) .inr)
    omega
  · have h1 := hp k hk
    have h2 := h.lt k (.inl (.inr s))
    omega
  · have h2 := h.lt k (.inr hk)
    omega
  · rintro e w' ⟨rfl, S', hI, hs, hx2⟩
    have hz2 := hx2.size
    have hx3 : Ext S1 w0 w' := (hx.mono (fun _ h => h.elim)).trans hx2 (fun _ _ h => h)
    have hn : ∀ k, S' k ∨ (R1 k ∨ blkOf p = some k) → (S1 k ∨ R1 k) ∨ w0.heap.size ≤ k := fun k hk => by
      rcases hk with hk | hk | hk
      · rcases hs k hk with s | s
        · exact .inl (.inl s)
        · exact .inr (by omega)
      · exact .inl (.inr hk)
      · exact .inr (hp k hk)
    refine ⟨rfl, S', _, S2, R2, hI, h.b.far hx3 (fun _ s => .inl s) (fun k s1 s2 => h.ap k (.inl s1) (.inl s2)) hn, fun k hk => ?_, fun k hk s => ?_, h.ext.trans hx3 (fun i hi s => by have := (h.lt i (.inl (.inl s))).1; omega)⟩
    · have hw := h.ext.size
      rcases hk with hk | hk
      · refine ⟨?_, ?_⟩
        · rcases hn k hk with s | s
          · exact (h.lt k (.inl s)).1
          · omega
        · rcases hk with s | s | s
          · exact hI.slt k s
          · have := (h.lt k (.inl (.inr s))).2; omega
          · have := arr_lt hA s; omega
      · have := h.lt k (.inr hk)
        exact ⟨this.1, by omega⟩
    · rcases hn k hk with s1 | s1
      · exact h.ap k s1 s
      · have := h.lt k (.inr s); omega
theorem Kp2.keep2 {w w0 wr : World} {b1 b2 n1 n2 : Nat} (h : Kp2 w w0 b1 b2 n1 n2) (hx : Ext (fun _ => False) w0 wr) {p : Option Addr} {c : Nat} {xs : List Int} (hA : Arr wr 3 1 p xs.length c (ints xs)) (hp : ∀ k, blkOf p = some k → w0.heap.size ≤ k) (hn : n2 < 1000) (hl : xs.length ≤ 1048576) :
    Calls Tryz.prog 27 #[.pointer (some ⟨b2, 0, none⟩), .slice p xs.length c] wr fun e w' => e = .returned (.tuple #[]) ∧ Kp2 w w' b1 b2 n1 (n2 + 1) := by
  obtain ⟨S1, R1, S2, R2, h⟩ := h
  have hz := hx.size
  have hA' : Arr wr 3 eI.sz p xs.length c (flat eI xs) := by rw [ints_flat]; exact hA
  refine (keepI_any (R' := fun k => R2 k ∨ blkOf p = some k) (h.b.on hx) hn hA' (fun k hk => ⟨fun s => ?_, fun s => ?_, .inr hk⟩) (fun k hk => ?_) (fun k hk => .inl hk) (by omega) (by omega)).mono ?_
  · have h1 := hp k hk
    have h2 := h.lt k (s.elim (fun s => .inr (.inl s)) .inl)
    omega
  · have h1 := hp k hk
    have h2 := h.lt k (.inr (.inr s))
    omega
  · have h2 := h.lt k (.inl hk)
    omega
  · rintro e w' ⟨rfl, S', hI, hs, hx2⟩
    have hz2 := hx2.size
    have hx3 : Ext S2 w0 w' := (hx.mono (fun _ h => h.elim)).trans hx2 (fun _ _ h => h)
    have hn : ∀ k, S' k ∨ (R2 k ∨ blkOf p = some k) → (S2 k ∨ R2 k) ∨ w0.heap.size ≤ k := fun k hk => by
      rcases hk with hk | hk | hk
      · rcases hs k hk with s | s
        · exact .inl (.inl s)
        · exact .inr (by omega)
      · exact .inl (.inr hk)
      · exact .inr (hp k hk)
    refine ⟨rfl, S1, R1, S', _, h.a.far hx3 (fun _ s => .inl s) (fun k s1 s2 => h.ap k (.inl s2) (.inl s1)) hn, hI, fun k hk => ?_, fun k hk s => ?_, h.ext.trans hx3 (fun i hi s => by have := (h.lt i (.inr (.inl s))).1; omega)⟩
    · have hw := h.ext.size
      rcases hk with hk | hk
      · have := h.lt k (.inl hk)
        exact ⟨this.1, by omega⟩
      · refine ⟨?_, ?_⟩
        · rcases hn k hk with s | s
          · exact (h.lt k (.inr s)).1
          · omega
        · rcases hk with s | s | s
          · exact hI.slt k s
          · have := (h.lt k (.inr (.inr s))).2; omega
          · have := arr_lt hA s; omega
    · rcases hn k s with s1 | s1
      · exact h.ap k hk s1
      · have := h.lt k (.inl hk); omega
/-- The first book's lists written full: the second stays. -/
theorem Kp2.apart1 {w wr : World} {b1 b2 n1 n2 : Nat} (h : Kp2 w wr b1 b2 n1 n2) (hn : n1 ≤ 1000) :
    Calls Tryz.prog 29 #[.pointer (some ⟨b1, 0, none⟩), .func (.func 30) #[] #[]] wr fun e w' => e = .returned (.bool true) ∧ (∃ S R : Nat → Prop, IsBook eI 3 59 S (fun _ => False) R w' b2 n2 ∧ ∀ k, S k ∨ R k → w.heap.size ≤ k) ∧ Ext (fun _ => False) w w' := by
  obtain ⟨S1, R1, S2, R2, h⟩ := h
  obtain ⟨es, pl, cl, pw, cw, H, hes, hB⟩ := h.a
  refine (apartT_any hB (by omega)).mono ?_
  rintro e w' ⟨rfl, hx2⟩
  have hu : ∀ k, (S1 k ∨ ∃ e ∈ es, blkOf e.p = some k) → S1 k ∨ R1 k := fun k hk => hk.elim .inl (fun ⟨e, he, hk⟩ => .inr ((hB.es.one e he).np k hk).2)
  refine ⟨rfl, ⟨S2, R2, h.b.far hx2 hu (fun k s1 s2 => h.ap k (hu k s1) (.inl s2)) (fun k hk => hk.elim), fun k hk => (h.lt k (.inr hk)).1⟩, h.ext.trans hx2 (fun i hi s => ?_)⟩
  have := (h.lt i (.inl (hu i s))).1
  omega
theorem apart2_any {w wr : World} {b n : Nat} (h : ∃ S R : Nat → Prop, IsBook eI 3 59 S (fun _ => False) R wr b n ∧ ∀ k, S k ∨ R k → w.heap.size ≤ k) (hx : Ext (fun _ => False) w wr) (hn : n ≤ 1000) :
    Calls Tryz.prog 31 #[.pointer (some ⟨b, 0, none⟩), .func (.func 32) #[] #[]] wr fun e w' => e = .returned (.bool true) ∧ Ext (fun _ => False) w w' := by
  obtain ⟨S, R, ⟨es, pl, cl, pw, cw, H, hes, hB⟩, hlt⟩ := h
  refine (apartI_any hB (by omega)).mono ?_
  rintro e w' ⟨rfl, hx2⟩
  refine ⟨rfl, hx.trans hx2 (fun i hi s => ?_)⟩
  have := hlt i (s.elim .inl (fun ⟨e, he, hk⟩ => .inr ((hB.es.one e he).np i hk).2))
  omega
end Go.Proofs.YtigpaaelggnffaaGreatDoor.Bq
