/- tally.Top. -/
import Derived.Test.YtigpaaelggnffaaGreatDoorHeapTd
import Derived.Test.YtigpaaelggnffaaGreatDoorTallyOrder
import Derived.Test.YtigpaaelggnffaaGreatDoorTallyCount
namespace Go.Proofs.YtigpaaelggnffaaGreatDoor.Ty
open Go.RowKit Go.Proofs.YtigpaaelggnffaaGreatDoor.Lib Go.Proofs.YtigpaaelggnffaaGreatDoor.Sl Go.Proofs.YtigpaaelggnffaaGreatDoor.HeapPure Go.Proofs.YtigpaaelggnffaaGreatDoor.HeapT
set_option linter.unusedVariables false
set_option linter.unusedSimpArgs false

def elT (x : TRow) : ElTal.El := ⟨x.id, x.n⟩
theorem elT_toT (x : TRow) : toT (elT x) = x := rfl
theorem map_elT (l : List TRow) : (l.map elT).map toT = l := by rw [List.map_map]; exact List.map_id' l
theorem weakT : Weak HeapT.less := by
  refine ⟨fun x => ?_, fun x y z h1 h2 => ?_, fun x y z h1 h2 => ?_⟩
  · show ltR _ _ = false; rw [ltR_false]; omega
  · simp only [HeapT.less, ltR_iff] at *; omega
  · simp only [HeapT.less, ltR_false] at *; omega
theorem ordR_pop {xs : List ElTal.El} (h : Heap HeapT.less xs) (hne : xs ≠ []) : ordR (xs.map toT) = toT (at_ xs 0) :: ordR ((popRest HeapT.less xs).map toT) := by
  refine (ordR_is ?_ ?_).symm
  · exact (List.Perm.cons _ (ordR_perm _)).trans ((popRest_perm HeapT.less xs hne).map toT)
  · rw [List.pairwise_cons]
    refine ⟨fun z hz => ?_, ordR_sorted _⟩
    have hz2 := (ordR_perm _).mem_iff.1 hz
    obtain ⟨y, hy, rfl⟩ := List.mem_map.1 hz2
    have hy2 : y ∈ xs := (popRest_perm HeapT.less xs hne).mem_iff.1 (.tail _ hy)
    obtain ⟨i, hi, e⟩ := List.mem_iff_getElem.1 hy2
    have := h.least weakT i hi
    rw [at_eq xs i hi, e] at this
    exact this
theorem map_atT (xs : List ElTal.El) : (List.range xs.length).map (at_ xs) = xs := by
  apply List.ext_getElem?
  intro i
  by_cases hi : i < xs.length
  · rw [List.getElem?_map, List.getElem?_range hi, at_get xs i hi]; rfl
  · rw [List.getElem?_eq_none (by simp; omega), List.getElem?_eq_none (by omega)]
theorem rd_reads {w : World} {p : Option Addr} {l : List TRow} (h : Rd eTR w p l) : Reads w 2 p l.length (fun i => (at_ (l.map elT) i).cells) := fun i hi => by
  obtain ⟨x, hx⟩ : ∃ x, l[i]? = some x := ⟨_, List.getElem?_eq_getElem hi⟩
  obtain ⟨b, o, hp, hb, hc⟩ := h i x hx
  have e : at_ (l.map elT) i = elT x := by
    rw [at_eq _ i (by rw [List.length_map]; exact hi), List.getElem_map]
    rw [List.getElem?_eq_getElem hi] at hx
    rw [Option.some.inj hx]
  refine ⟨b, o, hp, hb, fun j hj => ?_⟩
  dsimp only
  rw [e]
  exact hc j hj
theorem mem_lt {w : World} {g : Nat} {p : Option Addr} {c : Nat} {xs : List ElTal.El} (h : Mem w g p c xs) : g < w.heap.size := by
  have := h.blk
  unfold HB at this
  exact (Array.getElem?_eq_some_iff.1 this).1
theorem mem_lt2 {w : World} {g j : Nat} {p : Option Addr} {c : Nat} {xs : List ElTal.El} (h : Mem w g p c xs) (hj : blkOf p = some j) : j < w.heap.size := arr_lt h.row hj
structure TopSt (w W : World) (g : Nat) (l : List TRow) (V : List TRow) (p : Option Addr) (c : Nat) (xs : List ElTal.El) (gp : Option Addr) (gc : Nat) : Prop where
  mem : Mem W g gp gc xs
  heap : Heap HeapT.less xs
  is : V ++ ordR (xs.map toT) = ordR l
  arr : Arr W 45 2 p V.length c (flat eTR V)
  ext : Ext (fun _ => False) w W
  g0 : w.heap.size ≤ g
  gfr : ∀ j, blkOf gp = some j → w.heap.size ≤ j
  fr : ∀ j, blkOf p = some j → w.heap.size ≤ j ∧ j ≠ g ∧ blkOf gp ≠ some j
structure TopEnd (w : World) (l : List TRow) (e : Ending) (w' : World) : Prop where
  is : ∃ p c, e = .returned (.slice p l.length c) ∧ Arr w' 45 2 p l.length c (flat eTR l) ∧ Ext (fun _ => False) w w' ∧ ∀ k, blkOf p = some k → w.heap.size ≤ k
set_option maxRecDepth 100000 in
set_option maxHeartbeats 8000000 in
theorem top_any (w : World) (p : Option Addr) (c : Nat) (l : List TRow) (hl : Rd eTR w p l) (hb : l.length ≤ 1048576) (n : Int) :
    Calls Tryz.prog 22 #[.slice p l.length c, .int .i64 n] w fun e w' => TopEnd w ((ordR l).take n.toNat) e w' := by
  have O := Lib.hid (of_any w p l.length c (at_ (l.map elT)) (by omega) (rd_reads hl))
  clear hl
  go_enter Tryz.func22, Tryz.ntmps22
  go_wp2_with fail
  refine O.out.mono ?_
  rintro e w1 ⟨rfl, pa, ca, hM, hx1, hpa⟩
  have S0 := Lib.hid (show ∃ xs gp gc, TopSt w w1 w.heap.size l [] none 0 xs gp gc from by
    have em : (List.range l.length).map (at_ (l.map elT)) = l.map elT := by
      have := map_atT (l.map elT)
      rwa [List.length_map] at this
    rw [em] at hM
    refine ⟨_, pa, ca, hM, pushAll_heap weakT _, ?_, arr_nil _ _ _, hx1, Nat.le_refl _, hpa, fun j hj => by cases hj⟩
    rw [List.nil_append]
    refine ordR_of_perm ?_
    have := (pushAll_perm HeapT.less (l.map elT)).map toT
    rwa [map_elT] at this)
  clear hM hx1 hpa O
  obtain ⟨g, hg⟩ : ∃ g, w.heap.size = g := ⟨_, rfl⟩
  rw [hg] at S0 ⊢
  clear hg
  go_wp2_with fail
  go_loopw [6] (fun v wr => ∃ (k : Nat) (p1 : Option Addr) (c1 : Nat), v = .slice p1 k c1 ∧ k ≤ l.length ∧ (k : Int) ≤ max n 0 ∧ ∃ V xs gp gc, TopSt w wr g l V p1 c1 xs gp gc ∧ V.length = k) (fun v _ => l.length - lenV v)
  case atStart =>
    obtain ⟨xs, gp, gc, h⟩ := S0.out
    exact ⟨0, none, 0, rfl, Nat.zero_le _, by omega, [], xs, gp, gc, h, rfl⟩
  case round =>
    obtain ⟨k, p1, c1, rfl, hk, hkn, V, xs, gp, gc, hst, hvk⟩ := hrel
    have ST := Lib.hid hst
    have VK := Lib.hid hvk
    have KN := Lib.hid hkn
    clear hkn
    by_cases hlt : (k : Int) < n
    · by_cases hne : xs = []
      · subst hne
        have PN := Lib.hid (pop_none hst.mem)
        have E := Lib.hid (show V = (ordR l).take n.toNat from by
          have := hst.is
          rw [show ordR (List.map toT []) = [] from ordR_tiny (by simp), List.append_nil] at this
          rw [← this, List.take_of_length_le (by omega)])
        clear hst hvk
        go_wp2_with fail
        refine PN.out.mono ?_
        rintro e w2 ⟨rfl, hx2⟩
        have X2 := Lib.hid hx2
        clear hx2 PN
        go_wp2_with fail
        go_ret
        have A2 := arr_ext (arr_ext ST.out.arr X2.out (fun _ _ h => h)) ((Ext.refl (fun _ => False) w2).alloc (.cells #[.int .i64 0, .int .i64 0] 45)) (fun _ _ h => h)
        rw [E.out] at A2
        refine ⟨p1, c1, by rw [← E.out, VK.out]; rfl, A2, (ST.out.ext.trans X2.out (fun _ _ h => h)).alloc _, fun j hj => (ST.out.fr j hj).1⟩
      · obtain ⟨X, hX⟩ : ∃ X, at_ xs 0 = X := ⟨_, rfl⟩
        have hlen : k + xs.length = l.length := by
          have := congrArg List.length hst.is
          rw [List.length_append, ordR_length, ordR_length, List.length_map] at this
          omega
        have hpos : 0 < xs.length := List.length_pos_iff.2 hne
        have PS := Lib.hid (pop_some _ g gp gc xs hst.mem hne X hX (by omega))
        have IS := Lib.hid (show (V ++ [toT X]) ++ ordR ((popRest HeapT.less xs).map toT) = ordR l from by
          have := hst.is
          rw [ordR_pop hst.heap hne, hX] at this
          rw [← this]; simp)
        have HP := Lib.hid (popRest_heap weakT hst.heap)
        have hk1 : k + 1 ≤ l.length := by omega
        clear hst hvk hne hX hlen hpos
        obtain ⟨xi, xn⟩ := X
        go_wp2_with fail
        refine PS.out.mono ?_
        rintro e w2 ⟨rfl, hM2, hx2⟩
        have A2 := Lib.hid (show Arr (w2.alloc (.cells #[.int .i64 xi, .int .i64 xn] 45)) 45 2 p1 k c1 (flat eTR V) from by
          have h0 := ST.out.arr
          rw [VK.out] at h0
          refine arr_ext (arr_ext h0 hx2 (fun j hj hS => ?_)) ((Ext.refl (fun _ => False) w2).alloc _) (fun _ _ h => h)
          obtain ⟨_, h2, h3⟩ := ST.out.fr j hj
          rcases hS with h | h
          · exact h2 h
          · exact h3 h)
        have M2 := Lib.hid (hM2.ext ((Ext.refl (fun _ => False) w2).alloc (.cells #[.int .i64 xi, .int .i64 xn] 45)) (fun h => h) (fun _ _ h => h))
        have X2 := Lib.hid (show Ext (fun _ => False) w (w2.alloc (.cells #[.int .i64 xi, .int .i64 xn] 45)) from (ST.out.ext.trans hx2 (fun j hj hS => by
          rcases hS with h | h
          · have := ST.out.g0; omega
          · have := ST.out.gfr j h; omega)).alloc _)
        have SZ := Lib.hid (show g < (w2.alloc (.cells #[.int .i64 xi, .int .i64 xn] 45)).heap.size ∧ ∀ j, blkOf gp = some j → j < (w2.alloc (.cells #[.int .i64 xi, .int .i64 xn] 45)).heap.size from ⟨mem_lt M2.out, fun j hj => mem_lt2 M2.out hj⟩)
        clear hM2 hx2 PS
        go_wp2_with (at_builtin; refine arr_append1 rfl (.tmp 22) (.tmp 24) 33 45 2 16 (.agg #[.int .i64 0, .int .i64 0]) rfl Tryz.underlying33 infoR rfl (by decide) (by decide) p1 k c1 (flat eTR V) [.int .i64 xi, .int .i64 xn] rfl _ rfl (by simp) rfl (by simp [Value.oneCell']) A2.out (by omega) ?_; intro p3 c3 w3 hA3 hx3 hm3)
        have NX := Lib.hid (show TopSt w w3 g l (V ++ [⟨xi, xn⟩]) p3 c3 (popRest HeapT.less xs) gp gc from by
          refine ⟨M2.out.ext hx3 (fun h => (ST.out.fr g h).2.1 rfl) (fun j hj h => (ST.out.fr j h).2.2 hj), HP.out, IS.out, ?_, X2.out.trans hx3 (fun j hj h => by have := (ST.out.fr j h).1; omega), ST.out.g0, ST.out.gfr, fun j hj => ?_⟩
          · rw [List.length_append, VK.out, flat_append]; exact hA3
          · rcases hm3 j hj with h | h
            · exact ST.out.fr j h
            · have h1 := SZ.out.1
              have h2 := X2.out.size
              refine ⟨by omega, by omega, fun e => ?_⟩
              have := SZ.out.2 j e
              omega)
        clear hA3 hx3 hm3
        go_roundw
        case rel => exact ⟨k + 1, p3, c3, rfl, hk1, by omega, _, _, _, _, NX.out, by rw [List.length_append, VK.out]; rfl⟩
        case measure => simp [lenV]; omega
    · have E := Lib.hid (show V = (ordR l).take n.toNat from by
        have h1 : n.toNat = V.length := by have := KN.out; omega
        rw [h1, ← hst.is, List.take_left' rfl])
      clear hst hvk
      go_wp2_with fail
      go_ret
      have A2 := ST.out.arr
      rw [E.out] at A2
      exact ⟨p1, c1, by rw [← E.out, VK.out]; rfl, A2, ST.out.ext, fun j hj => (ST.out.fr j hj).1⟩
end Go.Proofs.YtigpaaelggnffaaGreatDoor.Ty
