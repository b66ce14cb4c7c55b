/- A model in memory: Size, Word; words checks the words. -/
import Derived.Test.YtbepmbihonnkaaaModel
import Derived.Test.YtbepmbihonnkaaaMapKit
import Derived.Laws.BytesArg
namespace Go.Proofs.Ytbepmbihonnkaaa.Sl
open Go.Proofs.Ytbepmbihonnkaaa.Lib
open Go.RowKit
set_option linter.unusedVariables false
set_option linter.unusedSimpArgs false

/-- A model's block. -/
structure MB (w : World) (a : Nat) (L : Pl) (d : Dat) (tp mp : Nat) (lg : Int) : Prop where
  blk : w.heap[a]? = some (.cells #[.slice L.p0 d.ws.length L.c0, .slice L.p1 d.ms.length L.c1, .slice L.p2 d.ls.length L.c2, .slice L.p3 d.ns.length L.c3, .slice L.p4 d.ss.length L.c4, .pointer (some ⟨tp, 0, none⟩), .map (some mp), .int .i64 lg] 92 (0, 0))
theorem MB.on {w w' : World} {a : Nat} {L : Pl} {d : Dat} {tp mp : Nat} {lg : Int} {S : Nat → Prop} (h : MB w a L d tp mp lg) (hx : Ext S w w') (hn : ¬ S a) : MB w' a L d tp mp lg := ⟨hx.obj h.blk hn⟩
theorem MB.c0 {w : World} {a : Nat} {L : Pl} {d : Dat} {tp mp : Nat} {lg : Int} (h : MB w a L d tp mp lg) : w.cell? ⟨a, 0, none⟩ = some (.slice L.p0 d.ws.length L.c0) := blk_cell h.blk 0
theorem MB.c1 {w : World} {a : Nat} {L : Pl} {d : Dat} {tp mp : Nat} {lg : Int} (h : MB w a L d tp mp lg) : w.cell? ⟨a, 1, none⟩ = some (.slice L.p1 d.ms.length L.c1) := blk_cell h.blk 1
theorem MB.c2 {w : World} {a : Nat} {L : Pl} {d : Dat} {tp mp : Nat} {lg : Int} (h : MB w a L d tp mp lg) : w.cell? ⟨a, 2, none⟩ = some (.slice L.p2 d.ls.length L.c2) := blk_cell h.blk 2
theorem MB.c3 {w : World} {a : Nat} {L : Pl} {d : Dat} {tp mp : Nat} {lg : Int} (h : MB w a L d tp mp lg) : w.cell? ⟨a, 3, none⟩ = some (.slice L.p3 d.ns.length L.c3) := blk_cell h.blk 3
theorem MB.c4 {w : World} {a : Nat} {L : Pl} {d : Dat} {tp mp : Nat} {lg : Int} (h : MB w a L d tp mp lg) : w.cell? ⟨a, 4, none⟩ = some (.slice L.p4 d.ss.length L.c4) := blk_cell h.blk 4
theorem MB.c5 {w : World} {a : Nat} {L : Pl} {d : Dat} {tp mp : Nat} {lg : Int} (h : MB w a L d tp mp lg) : w.cell? ⟨a, 5, none⟩ = some (.pointer (some ⟨tp, 0, none⟩)) := blk_cell h.blk 5
theorem MB.c6 {w : World} {a : Nat} {L : Pl} {d : Dat} {tp mp : Nat} {lg : Int} (h : MB w a L d tp mp lg) : w.cell? ⟨a, 6, none⟩ = some (.map (some mp)) := blk_cell h.blk 6
theorem MB.c7 {w : World} {a : Nat} {L : Pl} {d : Dat} {tp mp : Nat} {lg : Int} (h : MB w a L d tp mp lg) : w.cell? ⟨a, 7, none⟩ = some (.int .i64 lg) := blk_cell h.blk 7

set_option maxHeartbeats 400000 in
theorem size_any (w : World) (a : Nat) (p : Option Addr) (n c : Nat) (h : w.cell? ⟨a, 0, none⟩ = some (.slice p n c)) (hn : n ≤ 140737488351232) :
    Calls Try.prog 22 #[.pointer (some ⟨a, 0, none⟩)] w fun e w' => e = .returned (.int .i64 (256 + n)) ∧ w = w' := by
  go_enter Try.func22, Try.ntmps22
  go_wp2_with fail
  go_ret
  exact ⟨rfl, rfl⟩

/-- An id's bytes. -/
def wordOf (ws : List ByteArray) (id : Int) : ByteArray × Bool :=
  if id < 0 then (⟨#[]⟩, false) else if 256 + (ws.length : Int) ≤ id then (⟨#[]⟩, false) else if id < 256 then (⟨#[UInt8.ofNat id.toNat]⟩, true) else (ws.getD (id - 256).toNat ⟨#[]⟩, true)
theorem wordOf_byte {ws : List ByteArray} {id : Int} (h0 : 0 ≤ id) (h1 : id < 256) : wordOf ws id = (⟨#[UInt8.ofNat id.toNat]⟩, true) := by
  unfold wordOf
  rw [if_neg (by omega), if_neg (by omega), if_pos h1]
theorem wordOf_word {ws : List ByteArray} {i : Nat} {x : ByteArray} (h : ws[i]? = some x) : wordOf ws ((i : Int) + 256) = (x, true) := by
  have := (List.getElem?_eq_some_iff.1 h).1
  unfold wordOf
  rw [if_neg (by omega), if_neg (by omega), if_neg (by omega)]
  simp [List.getD_eq_getElem?_getD, h]
theorem wordOf_none {ws : List ByteArray} {id : Int} (h : id < 0 ∨ 256 + (ws.length : Int) ≤ id) : wordOf ws id = (⟨#[]⟩, false) := by
  unfold wordOf
  rcases h with h | h
  · rw [if_pos h]
  · rw [if_neg (by omega), if_pos h]

theorem byte_str (w : World) (id : Int) : (convert 88 9 (.slice (some ⟨w.heap.size, 0, none⟩) 1 1)).run Try.prog (w.alloc (.cells #[.int .u8 id] 5)) = .ok (.string ⟨#[UInt8.ofNat id.toNat]⟩) (w.alloc (.cells #[.int .u8 id] 5)) :=
  run_convert_bytes_arg (P := Try.prog) _ 88 5 Try.underlying88 Try.underlying5 w.heap.size 0 1 1 [id] rfl (fun i hi => by
    obtain rfl : i = 0 := by omega
    exact blk_cell (heap_alloc_new w _) 0) 9 Try.underlying9
set_option maxRecDepth 100000 in
set_option maxHeartbeats 1000000 in
theorem word_any (w : World) (a : Nat) (p : Option Addr) (c : Nat) (ws : List ByteArray) (id : Int) (h : w.cell? ⟨a, 0, none⟩ = some (.slice p ws.length c)) (hr : Rd eS w p ws) (hn : ws.length ≤ 140737488351232) :
    Calls Try.prog 23 #[.pointer (some ⟨a, 0, none⟩), .int .i64 id] w fun e w' => e = .returned (.tuple #[.string (wordOf ws id).1, .bool (wordOf ws id).2]) ∧ Ext (fun _ => False) w w' := by
  have SZ := Lib.hid (size_any w a p ws.length c h hn)
  have R := Lib.hid hr
  clear hr
  by_cases h0 : id < 0
  · have E := Lib.hid (wordOf_none (ws := ws) (.inl h0))
    go_enter Try.func23, Try.ntmps23
    go_wp2_with fail
    go_ret2
    exact ⟨by rw [E.out]; rfl, Ext.refl _ _⟩
  · have k0 : 0 ≤ id := by omega
    by_cases h1 : 256 + (ws.length : Int) ≤ id
    · have E := Lib.hid (wordOf_none (ws := ws) (.inr h1))
      have d1 : decide (id ≥ 256 + (ws.length : Int)) = true := decide_eq_true h1
      go_enter Try.func23, Try.ntmps23
      go_wp2_with fail
      refine SZ.out.mono ?_
      rintro e w' ⟨rfl, rfl⟩
      go_wp2_with fail
      go_ret2
      exact ⟨by rw [E.out]; rfl, Ext.refl _ _⟩
    · have d1 : decide (id ≥ 256 + (ws.length : Int)) = false := decide_eq_false h1
      by_cases h2 : id < 256
      · have E := Lib.hid (wordOf_byte (ws := ws) k0 h2)
        have hcv := byte_str w id
        go_enter Try.func23, Try.ntmps23
        go_wp2_with fail
        refine SZ.out.mono ?_
        rintro e w' ⟨rfl, rfl⟩
        go_wp2_with fail
        go_ret2
        exact ⟨by rw [E.out]; rfl, (Ext.refl _ _).alloc _⟩
      · obtain ⟨i, ei⟩ : ∃ i : Nat, (id - 256).toNat = i := ⟨_, rfl⟩
        have hi : i < ws.length := by omega
        obtain ⟨x, e⟩ : ∃ x, ws[i]? = some x := ⟨_, List.getElem?_eq_getElem hi⟩
        obtain ⟨b, o, rfl, hb, e0⟩ := R.out.cellS e
        have E := Lib.hid (show wordOf ws id = (x, true) from by rw [← wordOf_word e]; congr 1; omega)
        have i1 : id - 256 < (ws.length : Int) := by omega
        have i0 : 0 ≤ id - 256 := by omega
        clear e
        rw [← ei] at e0
        clear ei
        go_enter Try.func23, Try.ntmps23
        go_wp2_with fail
        refine SZ.out.mono ?_
        rintro e w' ⟨rfl, rfl⟩
        go_wp2_with fail
        go_ret2
        exact ⟨by rw [E.out]; rfl, Ext.refl _ _⟩

/-! ### words -/
def had (s : ByteArray) (l : List ByteArray) : Bool := l.any fun t => decide (t = s)
theorem had_iff {s : ByteArray} {l : List ByteArray} : had s l = true ↔ s ∈ l := by simp [had]
theorem wordOf_size (ws : List ByteArray) (h : ∀ s ∈ ws, s.size ≤ 140737488351232) (id : Int) : (wordOf ws id).1.size ≤ 140737488351232 := by
  unfold wordOf
  split
  · exact Nat.zero_le _
  · split
    · exact Nat.zero_le _
    · split
      · show 1 ≤ 140737488351232; decide
      · show (ws.getD (id - 256).toNat ⟨#[]⟩).size ≤ 140737488351232
        rw [List.getD_eq_getElem?_getD]
        cases e : ws[(id - 256).toNat]? with
        | none => exact Nat.zero_le _
        | some s => exact h s (List.mem_of_getElem? e)
def wordsGo : Nat → List ByteArray → List ByteArray → Int × Int
  | _, _, [] => (0, 0)
  | i, seen, s :: t => if s.size < 2 ∨ 256 < s.size then ((i : Int), 21) else if had s seen = true then ((i : Int), 22) else wordsGo (i + 1) (seen ++ [s]) t
def longest (ws : List ByteArray) : Int := ws.foldl (fun m s => mx m s.size) 1
theorem longest_snoc (ws : List ByteArray) (s : ByteArray) : longest (ws ++ [s]) = mx (longest ws) s.size := by simp [longest]
theorem longest_bd (ws : List ByteArray) (h : ∀ s ∈ ws, s.size ≤ 140737488351232) : 1 ≤ longest ws ∧ longest ws ≤ 140737488351232 := by
  have key : ∀ (l : List ByteArray) (m : Int), 1 ≤ m → m ≤ 140737488351232 → (∀ s ∈ l, s.size ≤ 140737488351232) → 1 ≤ l.foldl (fun m s => mx m s.size) m ∧ l.foldl (fun m s => mx m s.size) m ≤ 140737488351232 := by
    intro l
    induction l with
    | nil => intro m h1 h2 _; exact ⟨h1, h2⟩
    | cons s l ih =>
      intro m h1 h2 h3
      have hs := h3 s (by simp)
      refine ih _ ?_ ?_ (fun s hs => h3 s (by simp [hs])) <;> dsimp only [mx] <;> split <;> omega
  exact key ws 1 (by omega) (by omega) h
def ents : Nat → List ByteArray → List (Value × Value)
  | _, [] => []
  | i, s :: t => (.string s, .int .i64 (i : Int)) :: ents (i + 1) t
theorem ents_snoc (i : Nat) (l : List ByteArray) (s : ByteArray) : ents i (l ++ [s]) = ents i l ++ [(.string s, .int .i64 ((i + l.length : Nat) : Int))] := by
  induction l generalizing i with
  | nil => rfl
  | cons x l ih => simp only [List.cons_append, ents, ih, List.length_cons]; rw [show i + 1 + l.length = i + (l.length + 1) by omega]
theorem ents_mem {i : Nat} {l : List ByteArray} {p : Value × Value} (h : p ∈ ents i l) : ∃ s ∈ l, p.1 = .string s := by
  induction l generalizing i with
  | nil => cases h
  | cons x l ih =>
    rcases List.mem_cons.1 h with rfl | h
    · exact ⟨x, by simp, rfl⟩
    · obtain ⟨s, hs, e⟩ := ih h
      exact ⟨s, by simp [hs], e⟩
theorem ents_has {i : Nat} {l : List ByteArray} {s : ByteArray} (h : s ∈ l) : ∃ p ∈ ents i l, p.1 = .string s := by
  induction l generalizing i with
  | nil => cases h
  | cons x l ih =>
    rcases List.mem_cons.1 h with rfl | h
    · exact ⟨_, List.mem_cons_self, rfl⟩
    · obtain ⟨p, hp, e⟩ := ih (i := i + 1) h
      exact ⟨p, List.mem_cons_of_mem _ hp, e⟩
theorem MB.lg {w : World} {a : Nat} {L : Pl} {d : Dat} {tp mp : Nat} {lg : Int} (h : MB w a L d tp mp lg) (l2 : Int) : MB (w.setCell ⟨a, 7, none⟩ (.int .i64 l2)) a L d tp mp l2 := ⟨blk_set h.blk 7 (.int .i64 l2)⟩
/-- k words are looked at, each fit and new. -/
structure WordsSt (w wr : World) (a mb : Nat) (L : Pl) (d : Dat) (tp mp k : Nat) : Prop where
  kl : k ≤ d.ws.length
  eq : wordsGo 0 [] d.ws = wordsGo k (d.ws.take k) (d.ws.drop k)
  map : MapAt wr mb (ents 0 (d.ws.take k))
  bk : MB wr a L d tp mp (longest (d.ws.take k))
  ext : Ext (fun k => k = a ∨ k = mb) w wr
  ne : a ≠ mb
  new : w.heap.size ≤ mb
def WordsEnd (w : World) (a : Nat) (L : Pl) (d : Dat) (tp mp : Nat) (e : Ending) (w' : World) : Prop :=
  e = .returned (.tuple #[.int .i64 (wordsGo 0 [] d.ws).1, .int .i64 (wordsGo 0 [] d.ws).2]) ∧ Ext (fun k => k = a) w w' ∧ ((wordsGo 0 [] d.ws).2 = 0 → MB w' a L d tp mp (longest d.ws))
theorem WordsSt.bad {w wr : World} {a mb : Nat} {L : Pl} {d : Dat} {tp mp k : Nat} (h : WordsSt w wr a mb L d tp mp k) {s : ByteArray} {y : Int} (hs : d.ws[k]? = some s) (hy : y ≠ 0) (hb : wordsGo k (d.ws.take k) (s :: d.ws.drop (k + 1)) = ((k : Int), y)) :
    WordsEnd w a L d tp mp (.returned (.tuple #[.int .i64 k, .int .i64 y])) wr := by
  have hlt := (List.getElem?_eq_some_iff.1 hs).1
  have e : d.ws.drop k = s :: d.ws.drop (k + 1) := by rw [List.drop_eq_getElem_cons hlt]; congr 1; exact (List.getElem?_eq_some_iff.1 hs).2
  have e2 : wordsGo 0 [] d.ws = ((k : Int), y) := by rw [h.eq, e, hb]
  exact ⟨by rw [e2], h.ext.mono_old (fun i hi hS => hS.elim id (fun e => by have := h.new; omega)), fun h0 => absurd h0 (by rw [e2]; exact hy)⟩
theorem WordsSt.step {w wr w2 : World} {a mb : Nat} {L : Pl} {d : Dat} {tp mp k : Nat} (h : WordsSt w wr a mb L d tp mp k) {s : ByteArray} (hs : d.ws[k]? = some s) (h1 : ¬ (s.size < 2 ∨ 256 < s.size)) (h2 : s ∉ d.ws.take k) (hm : MapAt w2 mb (ents 0 (d.ws.take k) ++ [(.string s, .int .i64 (k : Int))])) (hx : Ext (fun k => k = mb) wr w2) :
    MB w2 a L d tp mp (longest (d.ws.take k)) ∧ WordsSt w (w2.setCell ⟨a, 7, none⟩ (.int .i64 (mx (longest (d.ws.take k)) s.size))) a mb L d tp mp (k + 1) := by
  have hlt := (List.getElem?_eq_some_iff.1 hs).1
  have e : d.ws.drop k = s :: d.ws.drop (k + 1) := by rw [List.drop_eq_getElem_cons hlt]; congr 1; exact (List.getElem?_eq_some_iff.1 hs).2
  have et : d.ws.take (k + 1) = d.ws.take k ++ [s] := by rw [List.take_succ_eq_append_getElem hlt]; congr 2; exact (List.getElem?_eq_some_iff.1 hs).2
  have hmb := h.bk.on hx h.ne
  refine ⟨hmb, ⟨hlt, ?_, ?_, ?_, ?_, h.ne, h.new⟩⟩
  · rw [h.eq, e, wordsGo, if_neg h1, if_neg (fun h => h2 (had_iff.1 h)), et]
  · rw [et, ents_snoc, List.length_take, Nat.min_eq_left (by omega), Nat.zero_add]
    exact hm.ext ((Ext.refl (fun k => k = a) w2).setCell (p := ⟨a, 7, none⟩) (fun _ => rfl) _) (fun e => h.ne e.symm)
  · rw [et, longest_snoc]
    exact hmb.lg _
  · exact (h.ext.trans hx (fun i hi e => .inr e)).setCell (p := ⟨a, 7, none⟩) (fun _ => .inl rfl) _

set_option maxRecDepth 100000 in
set_option maxHeartbeats 2000000 in
theorem words_any (w : World) (a : Nat) (L : Pl) (d : Dat) (tp mp : Nat) (h : MB w a L d tp mp 1) (hr : DR w L d) (hfar : ∀ k, blkOf L.p0 = some k → k ≠ a) :
    Calls Try.prog 56 #[.pointer (some ⟨a, 0, none⟩)] w fun e w' => WordsEnd w a L d tp mp e w' := by
  have H := Lib.hid h
  have R := Lib.hid hr
  have FAR := Lib.hid hfar
  have e0 := h.c0
  have hl := hr.b0
  have ha := blk_lt h.blk
  clear h hr hfar
  have hmm := @run_makeMap Try.prog
  go_enter Try.func56, Try.ntmps56
  go_wp2_with fail
  go_loopw [16] (fun i wr => ∃ k : Nat, i = .int .i64 k ∧ WordsSt w wr a w.heap.size L d tp mp k) (fun i _ => d.ws.length - (intOf i).toNat)
  case atStart =>
    refine ⟨0, rfl, ⟨Nat.zero_le _, rfl, ?_, ?_, ((Ext.refl _ w).alloc _), by omega, Nat.le_refl _⟩⟩
    · exact MapAt.new w
    · exact H.out.on ((Ext.refl (fun _ => False) w).alloc _) (fun h => h)
  case round =>
    obtain ⟨k, rfl, hst⟩ := hrel
    have ST := Lib.hid hst
    have hk := hst.kl
    clear hst hmm e0
    by_cases hlt : k < d.ws.length
    · obtain ⟨s, hs⟩ : ∃ s, d.ws[k]? = some s := ⟨_, List.getElem?_eq_getElem hlt⟩
      have HS := Lib.hid hs
      obtain ⟨b, o, hp, hb, c0⟩ := (R.out.r0.ext ST.out.ext (fun i hi hlt' hS => by
        rcases hS with rfl | rfl
        · exact FAR.out _ hi rfl
        · exact absurd hlt' (Nat.lt_irrefl _))).cellS hs
      have hsz := R.out.z0 s (List.mem_of_getElem? hs)
      have i1 : (k : Int) < (d.ws.length : Int) := by omega
      clear hs
      rw [hp]
      by_cases hA : s.size < 2
      · go_wp2_with fail
        go_ret2
        exact ST.out.bad HS.out (by decide) (by rw [wordsGo, if_pos (.inl hA)])
      · by_cases hB : 256 < s.size
        · go_wp2_with fail
          go_ret2
          exact ST.out.bad HS.out (by decide) (by rw [wordsGo, if_pos (.inr hB)])
        · have hok : ∀ p ∈ ents 0 (d.ws.take k), ∃ s : ByteArray, s.size ≤ 140737488351232 ∧ p.1 = .string s := fun p hp => by
            obtain ⟨s, hs, e⟩ := ents_mem hp
            exact ⟨s, R.out.z0 s (List.mem_of_mem_take hs), e⟩
          rcases run_look (P := Try.prog) Try.underlying139 strFit ST.out.map hok (.string s) (.int .i64 0) ⟨s, hsz, rfl⟩ (by kernel_rfl) with ⟨v, hv, hrun⟩ | ⟨hne, hrun⟩
          · have hin : s ∈ d.ws.take k := by
              obtain ⟨s', hs', e⟩ := ents_mem hv
              simp at e
              rw [e]; exact hs'
            have HIN := Lib.hid hin
            clear hv hok hin
            go_wp2_with fail
            go_ret2
            exact ST.out.bad HS.out (by decide) (by rw [wordsGo, if_neg (by omega), if_pos (had_iff.2 HIN.out)])
          · have hnin : s ∉ d.ws.take k := fun h => by
              obtain ⟨p, hp, e⟩ := ents_has (i := 0) h
              exact hne p hp e
            obtain ⟨w2, hput, hm2, hx2⟩ := run_put (P := Try.prog) Try.underlying139 strFit ST.out.map hok (.string s) (.int .i64 k) ⟨s, hsz, rfl⟩ hne
            have T := Lib.hid (ST.out.step HS.out (by omega) hnin hm2 hx2)
            have c7 := T.out.1.c7
            have f7 := blk_frozen T.out.1.blk 7
            have bd := longest_bd (d.ws.take k) (fun s hs => R.out.z0 s (List.mem_of_mem_take hs))
            clear hok hne hnin hm2 hx2
            go_wp2_with fail
            go_roundw
            case rel => exact ⟨k + 1, by go_num, T.out.2⟩
            case measure => simp [intOf]; omega
    · have hk2 : k = d.ws.length := by omega
      have E : wordsGo 0 [] d.ws = (0, 0) := by rw [ST.out.eq, hk2, List.drop_length]; rfl
      have HE := Lib.hid E
      have HK := Lib.hid hk2
      clear E hk2
      go_wp2_with fail
      go_ret2
      refine ⟨by rw [HE.out]; rfl, ST.out.ext.mono_old (fun i hi hS => hS.elim id (fun e => by have := ST.out.new; omega)), fun _ => ?_⟩
      have := ST.out.bk
      rw [HK.out, List.take_length] at this
      exact this
end Go.Proofs.Ytbepmbihonnkaaa.Sl
