/- bpe.begin. -/
import Derived.Test.YtbepmbihonnkaaaBpeLook
import Derived.Test.YtbepmbihonnkaaaSame
namespace Go.Proofs.Ytbepmbihonnkaaa.Sl
open Go.RowKit Go.Proofs.Ytbepmbihonnkaaa.Lib

set_option maxHeartbeats 400000 in
theorem cloneI (w : World) (p : Option Addr) (c : Nat) (l : List Int) (h : Rd eI w p l) (hb : l.length * 8 ≤ 140737488351232) :
    Calls Try.prog 64 #[.slice p l.length c] w fun e w' => Cloned eI 3 w p l e w' := by
  have hnil := fun W : World => Lib.run_eql_slice_nil (P := Try.prog) W 27 3 p l.length c 0 0 Try.underlying27
  have H := Lib.hid h
  cases p with
  | none =>
    have hl : l = [] := H.out.none_
    clear h H hb
    subst hl
    simp only [List.length_nil] at hnil ⊢
    go_enter Try.func64, Try.ntmps64
    go_wp2_with fail
    go_ret
    exact Cloned.nil_
  | some ad =>
    clear h
    go_enter Try.func64, Try.ntmps64
    go_wp2_with ((refine arr_append rfl (.tmp 5) (.tmp 6) 27 3 1 8 (.int .i64 0) rfl Try.underlying27 infoI rfl (by decide) (by decide) (some ⟨w.heap.size, 0, none⟩) 0 0 [] rfl (some ad) l.length c rfl (flat eI l) (flat_length eI l) (H.out.on ((Ext.refl _ w).alloc _)).src (fun h => by cases h) (flat_cells eI l) (arr_empty w 3 1) (by omega) ?_); intro p1 c1 w1 hA hx hm)
    exact bodyPost_ret (v := .slice p1 l.length c1) (by simp [results, Try.f64, go_sem]) rfl (Cloned.some_ hA hx hm)

end Go.Proofs.Ytbepmbihonnkaaa.Sl
namespace Go.Proofs.Ytbepmbihonnkaaa.Bpe
open Go.RowKit Go.Proofs.Ytbepmbihonnkaaa.Lib Go.Proofs.Ytbepmbihonnkaaa.Sl Go.Proofs.Ytbepmbihonnkaaa.Chain Go.Proofs.Ytbepmbihonnkaaa.ElBpe Go.Proofs.Ytbepmbihonnkaaa.HeapPure
set_option linter.unusedVariables false
set_option linter.unusedSimpArgs false

/-- What a look changes is not old. -/
theorem St.far {B : Nat} {w0 w w' : World} {b : Nat} {d : Dat} {n : Nat} {I : List Int} {al : Nat → Bool} {H : List El} {P : Pw} {p2 : Option Addr} {c2 : Nat} (h : St B w b d n I al H P p2 c2) (hB : w0.heap.size ≤ B) (hx : Ext (fun _ => False) w0 w) (hx2 : Ext (fun k => k = P.h ∨ blkOf p2 = some k) w w') : Ext (fun _ => False) w0 w' := by
  have e1 := h.lhb
  have e2 := h.l1h
  have e3 := h.l01
  have e4 := h.lo0
  refine hx.trans hx2 (fun i hi hS => ?_)
  rcases hS with rfl | hS
  · omega
  · have := h.lrow i hS
    omega
/-- begin, at place k. -/
def BegSt (w wr : World) (m b : Nat) (d : Dat) (ids : List Int) (P : Pw) (k : Nat) : Prop :=
  k ≤ ids.length ∧ P.m = m ∧ ∃ p2 c2 H, St w.heap.size wr b d ids.length ids (allAl ids.length) H P p2 c2 ∧ Heap HeapB.less H ∧ H.Perm (beginL d.ms ids ids.length k) ∧ Ext (fun _ => False) w wr
theorem BegSt.step {w wr w' : World} {m b k : Nat} {d : Dat} {ids : List Int} {P : Pw} {p2 : Option Addr} {c2 : Nat} {H : List El} {e : Ending} (hk : k < ids.length) (hm : P.m = m) (hS : St w.heap.size wr b d ids.length ids (allAl ids.length) H P p2 c2) (hH : Heap HeapB.less H) (hp : H.Perm (beginL d.ms ids ids.length k)) (hx : Ext (fun _ => False) w wr)
    (h : LookEnd w.heap.size wr b d ids.length ids (allAl ids.length) H P p2 k ((k : Int) + 1) e w') : BegSt w w' m b d ids P (k + 1) := by
  obtain ⟨_, p2', c2', H', h1, h2, h3, h4, h5⟩ := h
  exact ⟨hk, hm, p2', c2', H', h1, h3 hH, h2.trans (hp.append_right _), hS.far (Nat.le_refl _) hx h4⟩
def BegEnd (w : World) (m : Nat) (d : Dat) (ids : List Int) (e : Ending) (w' : World) : Prop :=
  ∃ b P p2 c2 H, e = .returned (.pointer (some ⟨b, 0, none⟩)) ∧ P.m = m ∧ St w.heap.size w' b d ids.length ids (allAl ids.length) H P p2 c2 ∧ Heap HeapB.less H ∧ BInv d.ms ids.length ids (allAl ids.length) H ∧ Ext (fun _ => False) w w'
set_option maxRecDepth 100000 in
set_option maxHeartbeats 2000000 in
theorem begin_any {w : World} {m : Nat} {d : Dat} (hm : IsModel w m d) (hp : OnePair d.ms) {p : Option Addr} {c : Nat} {ids : List Int} (hr : Rd eI w p ids) (hn : ids.length ≤ 1048576) :
    Calls Try.prog 51 #[.pointer (some ⟨m, 0, none⟩), .slice p ids.length c] w fun e w' => BegEnd w m d ids e w' := by
  have HM := Lib.hid hm
  have HP := Lib.hid hp
  have HR := Lib.hid hr
  have hb8 : ids.length * 8 ≤ 140737488351232 := by omega
  clear hm hp hr
  go_enter Try.func51, Try.ntmps51
  go_wp2_with fail
  refine (cloneI w p c ids HR.out hb8).mono ?_
  rintro e w1 ⟨p1, c1, rfl, A1, x1, f1⟩
  have A1 := Lib.hid A1
  have X1 := Lib.hid x1
  have F1 := Lib.hid f1
  clear x1 f1
  go_wp2_with fail
  refine (Chain.new_any w1 ids.length ids.length (by rw [mn_eq, mx_eq]; omega)).mono ?_
  rintro e w2 ⟨rfl, C2, x2⟩
  have C2 := Lib.hid C2
  have X2 := Lib.hid x2
  clear x2
  go_wp2_with fail
  refine (HeapB.new_any w2).mono ?_
  rintro e w3 ⟨rfl, M3, x3⟩
  have M3 := Lib.hid M3
  have X3 := Lib.hid x3
  clear x3
  go_wp2_with fail
  obtain ⟨W, hW⟩ : ∃ W, w3.alloc (.cells #[.pointer (some ⟨m, 0, none⟩), .slice p1 ids.length c1, .pointer (some ⟨w1.heap.size, 0, none⟩), .pointer (some ⟨w2.heap.size, 0, none⟩)] 126) = W := ⟨_, rfl⟩
  obtain ⟨b, hb⟩ : ∃ b, w3.heap.size = b := ⟨_, rfl⟩
  have ST := Lib.hid (show BegSt w W m b d ids ⟨m, p1, c1, w1.heap.size, w1.heap.size, w2.heap.size, w2.heap.size⟩ 0 from by
    have s1 := X1.out.size
    have s2 := X2.out.size
    have s3 := blk_lt M3.out.blk
    have xW : Ext (fun _ => False) w3 W := by rw [← hW]; exact (Ext.refl _ _).alloc _
    have x23 := X3.out.trans xW (fun _ _ h => h)
    have x13 := X2.out.trans x23 (fun _ _ h => h)
    have A := A1.out
    rw [ints_flat] at A
    refine ⟨Nat.zero_le _, rfl, none, 0, [], ⟨fun k hk => ⟨F1.out k hk, arr_lt A hk⟩, s1, s2, Nat.le_refl _, (show w2.heap.size < b by omega), (fun k hk => by cases hk), ?_, arr_ext A x13 (fun _ _ h => h), C2.out.ext x23 (fun _ _ _ h => h), M3.out.ext xW (fun h => h) (fun _ _ h => h), ⟨w, HM.out, Nat.le_refl _, X1.out.trans x13 (fun _ _ h => h)⟩, rfl⟩, heap_nil _, List.Perm.refl _, X1.out.trans x13 (fun _ _ h => h)⟩
    rw [← hW, ← hb]
    exact heap_alloc_new w3 _)
  rw [hW, hb]
  clear hW hb A1 X1 F1 C2 X2 M3 X3
  obtain ⟨P, hP⟩ : ∃ P : Pw, (⟨m, p1, c1, w1.heap.size, w1.heap.size, w2.heap.size, w2.heap.size⟩ : Pw) = P := ⟨_, rfl⟩
  rw [hP] at ST
  clear hP
  go_loopw [18] (fun i wr => ∃ k : Nat, i = .int .i64 k ∧ BegSt w wr m b d ids P k) (fun i _ => ids.length - (intOf i).toNat)
  case atStart => exact ⟨0, rfl, ST.out⟩
  case round =>
    obtain ⟨k, rfl, hst⟩ := hrel
    have HST := Lib.hid hst
    obtain ⟨hk, hmm, p2, c2, H, hS, hH, hpm, hx⟩ := hst
    have G := Lib.hid (And.intro hmm (And.intro hS (And.intro hH (And.intro hpm hx))))
    clear hmm hS hH hpm hx ST
    by_cases hlt : k < ids.length
    · have i1 : (k : Int) < (ids.length : Int) := by omega
      have LA := Lib.hid (fun w' (e : w' = wr) => e ▸ look_any G.out.2.1 HP.out (k : Int) ((k : Int) + 1) i1 (by have := G.out.2.2.2.1.length_eq; have := beginL_length d.ms ids ids.length k; omega) hn)
      go_wp2_with fail
      refine (LA.out _ rfl).mono ?_
      rintro e w' hE
      obtain ⟨rfl, _⟩ := (id hE : LookEnd _ _ _ _ _ _ _ _ _ _ _ _ _ _)
      have HE := Lib.hid hE
      clear hE
      go_wp2_with fail
      go_roundw
      case rel => exact ⟨k + 1, by go_num, BegSt.step hlt G.out.1 G.out.2.1 G.out.2.2.1 G.out.2.2.2.1 G.out.2.2.2.2 HE.out⟩
      case measure => simp [intOf]; omega
    · have i1 : ¬ (k : Int) < (ids.length : Int) := by omega
      have hkn : k = ids.length := by omega
      subst hkn
      go_wp2_with fail
      go_ret
      exact ⟨b, P, p2, c2, H, rfl, G.out.1, G.out.2.1, G.out.2.2.1, (BInv.begin d.ms ids).perm G.out.2.2.2.1.symm, G.out.2.2.2.2⟩
end Go.Proofs.Ytbepmbihonnkaaa.Bpe
