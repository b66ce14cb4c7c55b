/- heap.Heap[tessera/tally.Row]: elements, Push. -/
import Derived.Test.YtigpaaelggnffaaGreatDoorSpanPure
import Derived.Test.YtigpaaelggnffaaGreatDoorProg
import Derived.Test.YtigpaaelggnffaaGreatDoorHeapBa
import Derived.Test.YtigpaaelggnffaaGreatDoorElTal
import Derived.Test.YtigpaaelggnffaaGreatDoorTallyOrd
import Derived.Deep.DeepCutAuto
import Derived.Deep.CutBlock
import Derived.StillTailTactics
import Derived.Deep.LoopGhost
namespace Go.Proofs.YtigpaaelggnffaaGreatDoor.HeapT
open Go.RowKit Go.Proofs.YtigpaaelggnffaaGreatDoor.Lib Go.Proofs.YtigpaaelggnffaaGreatDoor.HeapPure Go.Proofs.YtigpaaelggnffaaGreatDoor.ElTal
set_option linter.unusedVariables false
set_option linter.unusedSimpArgs false

def toT (x : El) : Ty.TRow := ⟨x.f0, x.f1⟩
def less (x y : El) : Bool := Ty.ltR (toT x) (toT y)
/-- The blocks of a heap at g: its row at p. -/
def HB (w : World) (g : Nat) (p : Option Addr) (n c : Nat) : Prop := w.heap[g]? = some (.cells #[.func (.func 51) #[] #[], .slice p n c] 152 (0, 0))
structure Mem (w : World) (g : Nat) (p : Option Addr) (c : Nat) (xs : List El) : Prop where
  blk : HB w g p xs.length c
  row : Arr w 45 2 p xs.length c (flat xs)
  pg : blkOf p ≠ some g

theorem Mem.ext {w w' : World} {g : Nat} {p : Option Addr} {c : Nat} {xs : List El} {S : Nat → Prop} (h : Mem w g p c xs) (hx : Ext S w w') (hg : ¬ S g) (hp : ∀ k, blkOf p = some k → ¬ S k) : Mem w' g p c xs :=
  ⟨hx.obj h.blk hg, arr_ext h.row hx hp, h.pg⟩
/-- The cells of element k. -/
theorem Mem.elem {w : World} {g a c : Nat} {ys : List El} (h : Mem w g (some ⟨a, 0, none⟩) c ys) (k : Nat) (hk : k < ys.length) (Y : El) (hY : at_ ys k = Y) :
    w.cell? ⟨a, k * 2, none⟩ = some (.int .i64 Y.f0) ∧ w.cell? ⟨a, k * 2 + 1, none⟩ = some (.int .i64 Y.f1) ∧ w.frozen? ⟨a, k * 2, none⟩ = false ∧ w.frozen? ⟨a, k * 2 + 1, none⟩ = false := by
  have e := fun j (hj : j < 2) => (arr_cell h.row (k * 2 + j) (by omega)).trans (flat_get _ _ _ hk hj)
  rw [hY] at e
  exact ⟨by simpa [El.cells] using e 0 (by omega), by simpa [El.cells] using e 1 (by omega), arr_frozen h.row _, arr_frozen h.row _⟩
theorem Mem.cell1 {w : World} {g : Nat} {p : Option Addr} {c : Nat} {ys : List El} (h : Mem w g p c ys) : w.cell? ⟨g, 1, none⟩ = some (.slice p ys.length c) ∧ w.frozen? ⟨g, 1, none⟩ = false :=
  ⟨by have := blk_cell h.blk 1; simpa using this, blk_frozen h.blk 1⟩
theorem Mem.cell0 {w : World} {g : Nat} {p : Option Addr} {c : Nat} {ys : List El} (h : Mem w g p c ys) : w.cell? ⟨g, 0, none⟩ = some (.func (.func 51) #[] #[]) := by have := blk_cell h.blk 0; simpa using this
theorem Mem.drew {w : World} {g : Nat} {p : Option Addr} {c : Nat} {xs : List El} (h : Mem w g p c xs) : Mem w.drew g p c xs := h.ext (S := fun _ => False) (Ext.drew (Ext.refl _ w)) (fun h => h) (fun _ _ h => h)
/-- Element k written. -/
theorem Mem.set {w : World} {g a c : Nat} {ys : List El} (h : Mem w g (some ⟨a, 0, none⟩) c ys) (k : Nat) (Y : El) :
    Mem ((w.setCell ⟨a, k * 2, none⟩ (.int .i64 Y.f0)).setCell ⟨a, k * 2 + 1, none⟩ (.int .i64 Y.f1)) g (some ⟨a, 0, none⟩) c (ys.set k Y) := by
  have hga : g ≠ a := fun e => h.pg (by simp [e])
  refine ⟨?_, ?_, h.pg⟩
  · have := blk_far (blk_far (h.blk) (p := ⟨a, k * 2, none⟩) hga (.int .i64 Y.f0)) (p := ⟨a, k * 2 + 1, none⟩) hga (.int .i64 Y.f1)
    simpa [HB] using this
  · have := arr_set (arr_set (h.row) (k * 2) (.int .i64 Y.f0)) (k * 2 + 1) (.int .i64 Y.f1)
    rw [flat_set, List.length_set]
    exact this
theorem push_first {W w0 w1 : World} {g : Nat} {p p1 : Option Addr} {c c1 : Nat} {xs : List El} {x : El} (hM : Mem W g p c xs) (h0 : Ext (fun _ => False) W w0)
    (hA1 : Arr w1 45 2 p1 (xs.length + 1) c1 (flat xs ++ [.int .i64 x.f0, .int .i64 x.f1])) (hx1 : Ext (fun k => blkOf p = some k) w0 w1) (hm1 : Moved w0 p p1) :
    Mem (w1.setCell ⟨g, 1, none⟩ (.slice p1 (xs.length + 1) c1)) g p1 c1 (xs ++ [x]) ∧ Ext (fun k => k = g ∨ blkOf p = some k) W (w1.setCell ⟨g, 1, none⟩ (.slice p1 (xs.length + 1) c1)) ∧ Moved W p p1 := by
  have b0 := h0.obj hM.blk (fun h => h)
  have b1 := hx1.obj b0 hM.pg
  have hs := h0.size
  have hlt := blk_lt b0
  have e1 : blkOf p1 ≠ some g := fun e => (hm1 _ e).elim hM.pg (fun h => by omega)
  refine ⟨⟨?_, ?_, e1⟩, ?_, fun k hk => ?_⟩
  · have := blk_set b1 1 (.slice p1 (xs.length + 1) c1)
    simpa [HB] using this
  · have := arr_far hA1 (q := ⟨g, 1, none⟩) e1 (.slice p1 (xs.length + 1) c1)
    rw [flat_append, List.length_append]
    exact this
  · exact ((h0.mono (S' := fun k => k = g ∨ blkOf p = some k) (fun _ h => h.elim)).trans hx1 (fun i hi h => .inr h)).setCell (fun _ => .inl rfl) _
  · rcases hm1 k hk with h | h
    · exact .inl h
    · exact .inr (by omega)

/-- The loop's state of Push. -/
def UpSt (W w : World) (g : Nat) (p p1 : Option Addr) (c1 : Nat) (xs1 : List El) (m k : Nat) (ys : List El) : Prop :=
  Mem w g p1 c1 ys ∧ Ext (fun k => k = g ∨ blkOf p = some k) W w ∧ Moved W p p1 ∧ k < ys.length ∧ ys.length = xs1.length ∧ up less ys k = up less xs1 m
set_option maxHeartbeats 1000000 in
theorem UpSt.swap {W w : World} {g a k m c1 : Nat} {p : Option Addr} {xs1 ys : List El} (h : UpSt W w g p (some ⟨a, 0, none⟩) c1 xs1 m k ys) (h0 : k ≠ 0) {w2 : World} (hx : Ext (fun _ => False) w w2) {X Y : El} {u : Nat} (hu : (k - 1) / 2 = u) (hX : at_ ys k = X) (hY : at_ ys u = Y)
    (hl : less X Y = true) : UpSt W (((((w2.setCell ⟨a, k * 2, none⟩ (.int .i64 Y.f0)).setCell ⟨a, k * 2 + 1, none⟩ (.int .i64 Y.f1)).setCell ⟨a, u * 2, none⟩ (.int .i64 X.f0)).setCell ⟨a, u * 2 + 1, none⟩ (.int .i64 X.f1))).drew g p (some ⟨a, 0, none⟩) c1 xs1 m u (swap ys k u) := by
  obtain ⟨hM, hE, hm, hk, hlen, hup⟩ := h
  have hM2 := hM.ext hx (fun h => h) (fun _ _ h => h)
  have hM3 := (hM2.set k Y).set u X
  have ha : a < W.heap.size → (a = g ∨ blkOf p = some a) := fun h => (hm a rfl).elim .inr (fun h2 => by omega)
  refine ⟨?_, (ext_set (ext_set (hE.trans hx (fun _ _ h => h.elim)) ha k Y) ha u X).drew, hm, by rw [swap_length]; omega, by rw [swap_length]; exact hlen, ?_⟩
  · unfold HeapPure.swap
    rw [hX, hY]
    exact hM3.drew
  · rw [← hup, up_step less ys k h0 (by rw [hX, hu, hY]; exact hl), hu]
/-- What Push leaves. -/
def PushEnd (W : World) (g : Nat) (p : Option Addr) (xs : List El) (x : El) (e : Ending) (w' : World) : Prop :=
  ∃ v p1 c1, e = .returned v ∧ Mem w' g p1 c1 (push less xs x) ∧ Ext (fun k => k = g ∨ blkOf p = some k) W w' ∧ Moved W p p1
theorem UpSt.stop {W w : World} {g k c1 : Nat} {p p1 : Option Addr} {xs ys : List El} {x : El} (h : UpSt W w g p p1 c1 (xs ++ [x]) xs.length k ys) {w2 : World} (hx : Ext (fun _ => False) w w2) (hs : up less ys k = ys) (v : Value) : PushEnd W g p xs x (.returned v) w2 := by
  obtain ⟨hM, hE, hm, hk, hlen, hup⟩ := h
  refine ⟨v, p1, c1, rfl, ?_, hE.trans hx (fun _ _ h => h.elim), hm⟩
  have := hM.ext hx (fun h => h) (fun _ _ h => h)
  unfold HeapPure.push
  rw [← hup, hs]
  exact this

theorem less_any (x y : El) (w : World) : Calls Tryz.prog 51 #[.agg #[.int .i64 x.f0, .int .i64 x.f1], .agg #[.int .i64 y.f0, .int .i64 y.f1]] w fun e w' => e = .returned (.bool (less x y)) ∧ Ext (fun _ => False) w w' := by
  go_enter Tryz.func51, Tryz.ntmps51
  have R := Lib.hid (Ty.cmpR_lt (toT x) (toT y))
  obtain ⟨cv, hcv⟩ : ∃ c, Ty.cmpR (toT x) (toT y) = c := ⟨_, rfl⟩
  have CM := fun W => Ty.compare_any W (toT x) (toT y)
  rw [hcv] at R CM
  have CM := Lib.hid CM
  clear hcv
  go_wp2_with fail
  refine (CM.out _).mono ?_
  rintro e w2 ⟨rfl, hx2⟩
  have X2 := Lib.hid ((((Ext.refl (fun _ => False) w).alloc _).alloc _).trans hx2 (fun _ _ h => h))
  clear hx2
  go_wp2_with fail
  go_ret
  exact ⟨by show _ = Ending.returned (.bool (Ty.ltR (toT x) (toT y))); rw [← R.out]; rfl, X2.out⟩

set_option maxHeartbeats 2000000 in
set_option maxRecDepth 100000 in
/-- Push. -/
theorem push_any (W : World) (g : Nat) (p : Option Addr) (c : Nat) (xs : List El) (x : El) (hM : Mem W g p c xs) (hn : xs.length < 1000000000) :
    Calls Tryz.prog 75 #[.pointer (some ⟨g, 0, none⟩), .agg #[.int .i64 x.f0, .int .i64 x.f1]] W (PushEnd W g p xs x) := by
  obtain ⟨z1, f1⟩ := hM.cell1
  have g1 := blk_lt hM.blk
  go_enter Tryz.func75, Tryz.ntmps75
  go_upto_region 1 with fail
  have ha1 : Arr (W.alloc (.cells #[.int .i64 x.f0, .int .i64 x.f1] 45)) 45 2 p xs.length c (flat xs) := World.ownsRow.alloc hM.row _
  go_cut [] (fun wc => ∃ p1 c1, Mem wc g p1 c1 (xs ++ [x]) ∧ Ext (fun k => k = g ∨ blkOf p = some k) W wc ∧ Moved W p p1)
  case first =>
    go_region_law (first | (refine arr_append1_step (by rfl) (.tmp 10) (.tmp 12) 33 45 2 16 (.agg #[.int .i64 0, .int .i64 0]) rfl Tryz.underlying33 infoE rfl (by decide) (by decide) p xs.length c (flat xs) [.int .i64 x.f0, .int .i64 x.f1] rfl _ rfl (by simp) rfl (by simp [Value.oneCell']) ha1.drew (by omega) ?_; intro p1 c1 w1 hA1 hx1 hm1; have b1 := hx1.obj (blk_alloc hM.blk (.cells #[.int .i64 x.f0, .int .i64 x.f1] 45)) hM.pg; have b1c := blk_cell b1 1; have b1f := blk_frozen b1 1; simp at b1c))
    all_goals go_wp2_with fail
    all_goals go_meet
    all_goals exact ⟨p1, c1, push_first hM ((Ext.refl _ W).alloc _).drew hA1 hx1 hm1⟩
  case rest =>
    obtain ⟨p1, c1, hM1, hx1, hm1⟩ := hcut
    have q1 := hM1.cell1.1
    simp at q1
    have HS : UpSt W wc g p p1 c1 (xs ++ [x]) xs.length xs.length (xs ++ [x]) := ⟨hM1, hx1, hm1, by simp, rfl, rfl⟩
    have HS := Lib.hid HS
    have HN := Lib.hid hn
    clear hM1 hx1 hm1 ha1 g1 f1 z1 hM
    go_wp2_with fail
    go_loopw [4, 5] (fun i _ wr => ∃ k ys, i = .int .i64 (k : Nat) ∧ UpSt W wr g p p1 c1 (xs ++ [x]) xs.length k ys) (fun i _ _ => (intOf i).toNat)
    case atStart => exact ⟨xs.length, xs ++ [x], rfl, HS.out⟩
    case round =>
      obtain ⟨k, ys, rfl, hst⟩ := hrel
      have HST := Lib.hid hst
      obtain ⟨hM2, hx2, hm2, hk, hl, hu⟩ := hst
      obtain ⟨a, rfl⟩ := arr_some hM2.row (by omega)
      have r0 := hM2.cell0
      have r1 := hM2.cell1.1
      have HL := Lib.hid hl
      have kb : k ≤ 1000000000 := by have := HN.out; simp at hl; omega
      clear hu hx2 hl hm2 q1
      by_cases h0 : k = 0
      · subst h0
        go_wp2_with fail
        go_end0
        exact HST.out.stop (Ext.refl _ _) (up_zero _ _) _
      · obtain ⟨u, hu⟩ : ∃ u : Nat, (k - 1) / 2 = u := ⟨_, rfl⟩
        have hu2 : ((k : Int) - 1) / 2 = (u : Int) := by omega
        have hul : u < k := by omega
        have HUU := Lib.hid hu
        clear hu
        obtain ⟨X, hX⟩ : ∃ X, at_ ys k = X := ⟨_, rfl⟩
        obtain ⟨Y, hY⟩ : ∃ Y, at_ ys u = Y := ⟨_, rfl⟩
        obtain ⟨e0, e1, ef0, ef1⟩ := hM2.elem k hk X hX
        obtain ⟨d0, d1, df0, df1⟩ := hM2.elem u (by omega) Y hY
        have hk2 : k < xs.length + 1 := by have := HL.out; simp at this; omega
        have HXY := Lib.hid (And.intro hX hY)
        clear hX hY
        have i1 : ((k : Nat) : Int) < (ys.length : Int) := by omega
        have i2 : ((u : Nat) : Int) < (ys.length : Int) := by omega
        go_wp2_with fail
        go_still_tail 18, (by kernel_rfl)
        change wpList _ _ _ _ _ wr.drew
        go_wp2_with fail
        refine (less_any X Y _).mono ?_
        rintro e w2 ⟨rfl, hx2⟩
        replace hx2 := hx2.undrew
        have HX3 := Lib.hid hx2
        have hM3 := hM2.ext hx2 (fun h => h) (fun _ _ h => h)
        clear hx2 e0 e1 ef0 ef1 d0 d1 df0 df1 r0 r1
        have r0 := hM3.cell0
        have r1 := hM3.cell1.1
        cases hlt : less X Y with
        | false =>
          go_wp2_with fail
          go_end0
          exact HST.out.stop HX3.out (up_stop _ _ _ h0 (by rw [HUU.out, HXY.out.1, HXY.out.2]; exact hlt)) _
        | true =>
          obtain ⟨e0, e1, ef0, ef1⟩ := hM3.elem k hk X HXY.out.1
          obtain ⟨d0, d1, df0, df1⟩ := hM3.elem u (by omega) Y HXY.out.2
          have T := Lib.hid (HST.out.swap h0 HX3.out HUU.out HXY.out.1 HXY.out.2 hlt)
          go_wp2_with fail
          go_region
          go_wp2_with fail
          go_roundw
          case rel => exact ⟨u, _, by go_num, T.out⟩
          case measure => simp [intOf]; omega
end Go.Proofs.YtigpaaelggnffaaGreatDoor.HeapT
