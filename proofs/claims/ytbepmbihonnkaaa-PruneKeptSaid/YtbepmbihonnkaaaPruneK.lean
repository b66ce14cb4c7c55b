/- Merged of PruneN, PruneK. -/
import Derived.Test.YtbepmbihonnkaaaPruneL
import Derived.Test.YtbepmbihonnkaaaSame
/- prune.Down. -/
namespace Go.Proofs.Ytbepmbihonnkaaa.Sl
open Go.Proofs.Ytbepmbihonnkaaa.Lib
open Go.RowKit
set_option linter.unusedVariables false
set_option linter.unusedSimpArgs false

def stkOf (w : World) : Value → List Int
  | .slice (some p) n _ => (List.range n).map fun j => intOf ((w.cell? ⟨p.block, p.off + j, none⟩).getD undef)
  | _ => []
theorem stkOf_arr {w : World} {e c : Nat} {p : Option Addr} {S : List Int} (h : Arr w e 1 p S.length c (ints S)) : stkOf w (.slice p S.length c) = S := by
  have hr : Rd eI w p S := Rd.of_arr (by rw [ints_flat]; exact h)
  cases p with
  | none => rw [hr.none_]; rfl
  | some a =>
    unfold stkOf
    refine List.ext_getElem? fun i => ?_
    by_cases hi : i < S.length
    · obtain ⟨b, o, hp, _, hc⟩ := hr.cellI (List.getElem?_eq_getElem hi)
      injection hp with hp
      subst hp
      rw [List.getElem?_map, List.getElem?_range hi, Option.map_some, hc, List.getElem?_eq_getElem hi]
      rfl
    · rw [List.getElem?_eq_none (by simp; omega), List.getElem?_eq_none (by omega)]
/-- Down's loops. -/
structure DnSt (w wr : World) (d : Dat) (k : Int) (N tb ib : Nat) (tc : Array Value) (S O : List Int) (ps : Option Addr) (cs : Nat) (po : Option Addr) (co : Nat) : Prop where
  stk : Arr wr 3 1 ps S.length cs (ints S)
  out : Arr wr 3 1 po O.length co (ints O)
  nam : Arr wr 3 1 (some ⟨ib, 0, none⟩) N N (ints (renGo d (mx k 0) (256 + d.ms.length)).1)
  ext : Ext (fun _ => False) w wr
  box : wr.heap[tb]? = some (.cells tc 79 (0, 0))
  f0 : w.heap.size ≤ ib ∧ w.heap.size ≤ tb ∧ tb ≠ ib
  f1 : ∀ j, blkOf ps = some j → w.heap.size ≤ j ∧ j ≠ ib ∧ j ≠ tb ∧ blkOf po ≠ some j
  f2 : ∀ j, blkOf po = some j → w.heap.size ≤ j ∧ j ≠ ib ∧ j ≠ tb
  ok : ∀ x ∈ S, 0 ≤ x ∧ x < (N : Int)
section
variable {w wr W : World} {d : Dat} {k : Int} {N tb ib : Nat} {tc : Array Value} {S O : List Int} {ps : Option Addr} {cs : Nat} {po : Option Addr} {co : Nat}
theorem DnSt.on (h : DnSt w wr d k N tb ib tc S O ps cs po co) (hx : Ext (fun _ => False) wr W) : DnSt w W d k N tb ib tc S O ps cs po co :=
  { h with stk := arr_ext h.stk hx (fun _ _ h => h), out := arr_ext h.out hx (fun _ _ h => h), nam := arr_ext h.nam hx (fun _ _ h => h), ext := h.ext.trans hx (fun _ _ h => h), box := hx.obj h.box (fun h => h) }
/-- The top is taken. -/
theorem DnSt.pop {x : Int} (h : DnSt w wr d k N tb ib tc (S ++ [x]) O ps cs po co) : DnSt w wr d k N tb ib tc S O ps cs po co :=
  { h with
    stk := by
      have := arr_take h.stk (m := S.length) (by simp)
      unfold ints at this ⊢
      rw [List.map_append, List.take_append_of_le_length (by simp), List.take_of_length_le (by simp)] at this
      exact this
    ok := fun y hy => h.ok y (List.mem_append_left _ hy) }
/-- Ids are put on the stack. -/
theorem DnSt.push {w1 : World} {p1 : Option Addr} {c1 : Nat} {T : List Int} (h : DnSt w wr d k N tb ib tc S O ps cs po co)
    (hA : Arr w1 3 1 p1 (S ++ T).length c1 (ints (S ++ T))) (hx1 : Ext (fun j => blkOf ps = some j) wr w1) (hm : Moved wr ps p1) (hT : ∀ x ∈ T, 0 ≤ x ∧ x < (N : Int)) : DnSt w w1 d k N tb ib tc (S ++ T) O p1 c1 po co := by
  have b1 := arr_lt h.nam (k := ib) rfl
  have b2 := blk_lt h.box
  have b3 := h.ext.size
  refine ⟨hA, arr_ext h.out hx1 (fun j hj e => (h.f1 j e).2.2.2 hj), arr_ext h.nam hx1 (fun j hj e => by have := h.f1 j e; simp [blkOf] at hj; omega), h.ext.trans hx1 (fun i hi e => by have := h.f1 i e; omega), hx1.obj h.box (fun e => by have := h.f1 _ e; omega), h.f0, fun j hj => ?_, h.f2, fun x hx => ?_⟩
  · rcases hm j hj with h1 | h1
    · exact h.f1 j h1
    · exact ⟨by omega, by omega, by omega, fun e => by have := arr_lt h.out e; omega⟩
  · rcases List.mem_append.1 hx with h1 | h1
    · exact h.ok x h1
    · exact hT x h1
/-- A name is put out. -/
theorem DnSt.put {w1 : World} {p1 : Option Addr} {c1 : Nat} {z : Int} (h : DnSt w wr d k N tb ib tc S O ps cs po co)
    (hA : Arr w1 3 1 p1 (O ++ [z]).length c1 (ints (O ++ [z]))) (hx1 : Ext (fun j => blkOf po = some j) wr w1) (hm : Moved wr po p1) : DnSt w w1 d k N tb ib tc S (O ++ [z]) ps cs p1 c1 := by
  have b1 := arr_lt h.nam (k := ib) rfl
  have b2 := blk_lt h.box
  have b3 := h.ext.size
  refine ⟨arr_ext h.stk hx1 (fun j hj e => (h.f1 j hj).2.2.2 e), hA, arr_ext h.nam hx1 (fun j hj e => by have := h.f2 j e; simp [blkOf] at hj; omega), h.ext.trans hx1 (fun i hi e => by have := h.f2 i e; omega), hx1.obj h.box (fun e => by have := h.f2 _ e; omega), h.f0, fun j hj => ?_, fun j hj => ?_, h.ok⟩
  · refine ⟨(h.f1 j hj).1, (h.f1 j hj).2.1, (h.f1 j hj).2.2.1, fun e => ?_⟩
    rcases hm j e with h1 | h1
    · exact (h.f1 j hj).2.2.2 h1
    · have := arr_lt h.stk hj; omega
  · rcases hm j hj with h1 | h1
    · exact h.f2 j h1
    · omega
/-- A new stack of one id. -/
theorem DnSt.fresh {x : Int} (h : DnSt w wr d k N tb ib tc S O ps cs po co) (hx : 0 ≤ x ∧ x < (N : Int)) : DnSt w (wr.alloc (.cells #[.int .i64 x] 3)) d k N tb ib tc [x] O (some ⟨wr.heap.size, 0, none⟩) 1 po co := by
  have h2 := h.on ((Ext.refl (fun _ => False) wr).alloc (.cells #[.int .i64 x] 3))
  have b1 := arr_lt h.nam (k := ib) rfl
  have b2 := blk_lt h.box
  have b3 := h.ext.size
  refine { h2 with stk := World.ownsRow_lit wr #[.int .i64 x] 1 (Nat.zero_le _) (by decide) rfl, f1 := fun j hj => ?_, ok := fun y hy => by simp at hy; subst hy; exact hx }
  simp [blkOf] at hj
  exact ⟨by omega, by omega, by omega, fun e => by have := arr_lt h.out e; omega⟩
theorem DnSt.wipe (h : DnSt w wr d k N tb ib tc S O ps cs po co) : DnSt w wr d k N tb ib tc [] O none 0 po co :=
  { h with stk := arr_nil _ _ _, f1 := fun j hj => (by cases hj), ok := fun x hx => (by simp at hx) }
end
theorem keepX {C : Prop} {T : Nat → Prop} {W w1 w2 : World} (x : Ext (fun _ => False) w1 w2) (h : C ∧ Ext T W w1) : Ext T W w2 := h.2.trans x (fun _ _ h => h.elim)
def DownEnd (w : World) (d : Dat) (k : Int) (ids : List Int) (e : Ending) (w' : World) : Prop := ∃ (po : Option Addr) (co : Nat), e = .returned (.tuple #[.slice po (downT d k ids).1.length co, .int .i64 (downT d k ids).2]) ∧
  Arr w' 3 1 po (downT d k ids).1.length co (ints (downT d k ids).1) ∧ Ext (fun _ => False) w w' ∧ (∀ j, blkOf po = some j → w.heap.size ≤ j)

set_option maxRecDepth 100000 in
set_option maxHeartbeats 8000000 in
theorem down_any (w : World) (a : Nat) (d : Dat) (k : Int) (q : Option Addr) (cq : Nat) (ids : List Int) (h : IsModel w a d) (hd : RightD d) (hq : Rd eI w q ids) (hl : ids.length ≤ 1000) :
    Calls Try.prog 17 #[.pointer (some ⟨a, 0, none⟩), .int .i64 k, .slice q ids.length cq] w fun e w' => DownEnd w d k ids e w' := by
  have hsz : ∃ p c, ∀ W, Ext (fun _ => False) w W → W.cell? ⟨a, 0, none⟩ = some (.slice p d.ws.length c) := by
    obtain ⟨L, tp, mp, q0, q1, q2, d0, d1, d2, hM⟩ := h
    exact ⟨L.p0, L.c0, fun W hx => (hM.on hx).blk.c0⟩
  obtain ⟨p, c, hsz⟩ := hsz
  have hlen := hd.len
  have hfew := hd.few
  have SZ := Lib.hid (fun W hx => show Calls Try.prog 22 #[.pointer (some ⟨a, 0, none⟩)] W fun e w' => e = .returned (.int .i64 (256 + (d.ms.length : Int))) ∧ W = w' from by
    have := size_any W a p d.ws.length c (hsz W hx) (by omega)
    rwa [hlen] at this)
  have C := Lib.hid (pof_any w a d h hd)
  have D := Lib.hid hd
  have Q := Lib.hid hq
  clear hsz h hd hlen hq
  go_enter Try.func17, Try.ntmps17
  go_wp2_with fail
  go_loopw [29] (fun i wr => ∃ n : Nat, i = .int .i64 n ∧ n ≤ ids.length ∧ wr = w ∧ (ids.take n).all (validId d) = true) (fun i _ => ids.length - (intOf i).toNat)
  case atStart => exact ⟨0, rfl, by omega, rfl, rfl⟩
  case round =>
    obtain ⟨n, rfl, hn, hwr, hv⟩ := hrel
    have hwr := hwr.symm
    subst hwr
    have HV := Lib.hid hv
    clear hv
    by_cases hlt : n < ids.length
    · have i1 : (n : Int) < (ids.length : Int) := by omega
      obtain ⟨x, hx⟩ : ∃ x, ids[n]? = some x := ⟨_, List.getElem?_eq_getElem hlt⟩
      obtain ⟨b, o, hp, hb, cx⟩ := Q.out.cellI hx
      have HX := Lib.hid hx
      clear hx
      have bad : validId d x = false → downT d k ids = ([], 24) := by
        intro hb
        unfold downT
        rw [if_neg]
        rw [List.all_eq_true]
        intro hall
        rw [hall x (List.mem_of_getElem? HX.out)] at hb
        cases hb
      have BAD := Lib.hid bad
      have next : validId d x = true → (ids.take (n + 1)).all (validId d) = true := by
        intro hb
        rw [List.take_add_one, HX.out, List.all_append, HV.out]
        simp [hb]
      have NEXT := Lib.hid next
      clear bad next
      rw [hp]
      by_cases h0 : x < 0
      · have E := Lib.hid (BAD.out (by unfold validId; rw [decide_eq_false (by omega)]; rfl))
        go_wp2_with fail
        go_ret2
        exact ⟨none, 0, by rw [E.out]; rfl, by rw [E.out]; exact arr_nil _ _ _, Ext.refl _ _, fun j hj => by cases hj⟩
      · by_cases h1 : 256 + (d.ms.length : Int) ≤ x
        · have E := Lib.hid (BAD.out (by unfold validId; rw [decide_eq_false (show ¬ x < 256 + (d.ms.length : Int) by omega), Bool.and_false]))
          have d1 : decide (x ≥ 256 + (d.ms.length : Int)) = true := decide_eq_true h1
          go_wp2_with fail
          refine (SZ.out _ (Ext.refl _ _)).mono ?_
          rintro e w' ⟨rfl, rfl⟩
          go_wp2_with fail
          go_ret2
          exact ⟨none, 0, by rw [E.out]; rfl, by rw [E.out]; exact arr_nil _ _ _, Ext.refl _ _, fun j hj => by cases hj⟩
        · have E := Lib.hid (NEXT.out (by unfold validId; rw [decide_eq_true (show 0 ≤ x by omega), decide_eq_true (show x < 256 + (d.ms.length : Int) by omega)]; rfl))
          have d1 : decide (x ≥ 256 + (d.ms.length : Int)) = false := decide_eq_false h1
          go_wp2_with fail
          refine (SZ.out _ (Ext.refl _ _)).mono ?_
          rintro e w' ⟨rfl, rfl⟩
          go_wp2_with fail
          go_roundw
          case rel => exact ⟨n + 1, by go_num, by omega, trivial, E.out⟩
          case measure => simp [intOf]; omega
    · have hn2 : n = ids.length := by omega
      have i1 : ¬ ((n : Int) < (ids.length : Int)) := by omega
      have ALL := Lib.hid (show ids.all (validId d) = true from by have := HV.out; rwa [hn2, List.take_length] at this)
      clear hn2 HV
      go_wp2_with fail
      refine C.out.mono ?_
      rintro e W ⟨L, pr, cr, R, rfl, hT, hx⟩
      have T := Lib.hid hT
      have X := Lib.hid hx
      clear hT hx C
      go_wp2_with fail
      have xa : Ext (fun _ => False) W (W.alloc (.cells #[.slice L.p0 d.ws.length L.c0, .slice L.p1 d.ms.length L.c1, .slice L.p2 d.ls.length L.c2, .slice L.p3 d.ns.length L.c3, .slice L.p4 d.ss.length L.c4, .slice pr R.length cr] 79)) := (Ext.refl _ _).alloc _
      have hb : (W.alloc (.cells #[.slice L.p0 d.ws.length L.c0, .slice L.p1 d.ms.length L.c1, .slice L.p2 d.ls.length L.c2, .slice L.p3 d.ns.length L.c3, .slice L.p4 d.ss.length L.c4, .slice pr R.length cr] 79)).heap[W.heap.size]? = _ := heap_alloc_new W _
      refine (renamed_any _ L d pr cr R (mx k 0) (T.out.on xa) D.out).mono ?_
      rintro e W2 ⟨ib, pw, cw, rfl, hI, hWd, hx2, hib, hpw⟩
      have S0 := Lib.hid (show DnSt W W2 d k (256 + d.ms.length) W.heap.size ib (tbCells L d pr cr R) [] [] none 0 none 0 from
        { stk := arr_nil _ _ _, out := arr_nil _ _ _, nam := hI, ext := xa.trans hx2 (fun _ _ h => h), box := hx2.obj hb (fun h => h),
          f0 := by simp at hib; omega
          f1 := fun j hj => by cases hj
          f2 := fun j hj => by cases hj
          ok := fun x hx => by simp at hx })
      obtain ⟨tb, htb⟩ : ∃ tb, W.heap.size = tb := ⟨_, rfl⟩
      rw [htb] at S0
      rw [htb]
      obtain ⟨N, hN⟩ : ∃ N : Nat, 256 + d.ms.length = N := ⟨_, rfl⟩
      rw [hN] at S0
      rw [hN]
      have hN2 : N ≤ 4352 := by omega
      have HN := Lib.hid hN
      clear xa hb hI hWd hx2 hib hpw htb hN i1 hn hlt
      go_wp2_with fail
      go_loopw [13, 53] (fun v i w2 => ∃ n : Nat, i = .int .i64 n ∧ n ≤ ids.length ∧ ∃ (O : List Int) (po : Option Addr) (co : Nat), v = .slice po O.length co ∧ O = ((ids.take n).flatMap (leavesOf d k)).map (nameOf d k) ∧ DnSt W w2 d k N tb ib (tbCells L d pr cr R) [] O none 0 po co) (fun _ i _ => ids.length - (intOf i).toNat)
      case atStart => exact ⟨0, rfl, by omega, [], none, 0, rfl, rfl, S0.out⟩
      case round =>
        obtain ⟨m, rfl, hm, O, po, co, rfl, hO, hst⟩ := hrel
        have ST := Lib.hid hst
        have HO := Lib.hid hO
        clear hst S0 hO
        by_cases hlt : m < ids.length
        · have i1 : (m : Int) < (ids.length : Int) := by omega
          obtain ⟨x, hx⟩ : ∃ x, ids[m]? = some x := ⟨_, List.getElem?_eq_getElem hlt⟩
          obtain ⟨b, o, hp, hb, cx⟩ := (Q.out.on (X.out.trans ST.out.ext (fun _ _ h => h))).cellI hx
          have HX := Lib.hid hx
          have HV := Lib.hid (show 0 ≤ x ∧ x < (N : Int) from by
            have := List.all_eq_true.1 ALL.out x (List.mem_of_getElem? hx)
            unfold validId at this
            rw [Bool.and_eq_true] at this
            have h1 := of_decide_eq_true this.1
            have h2 := of_decide_eq_true this.2
            have := HN.out
            omega)
          have S1 := Lib.hid (ST.out.fresh HV.out)
          clear hx
          rw [hp]
          go_wp2_with fail
          obtain ⟨G, hG⟩ : ∃ G, O ++ (leavesOf d k x).map (nameOf d k) = G := ⟨_, rfl⟩
          have HG := Lib.hid (show G = ((ids.take (m + 1)).flatMap (leavesOf d k)).map (nameOf d k) from by
            rw [← hG, HO.out, List.take_add_one, HX.out]
            simp)
          have GL := Lib.hid (show G.length ≤ 256000 from by
            rw [HG.out, List.length_map]
            refine Nat.le_trans (flat_len D.out k fun y hy => ?_) (by rw [List.length_take]; omega)
            have := List.all_eq_true.1 ALL.out y (List.mem_of_mem_take hy)
            unfold validId at this
            rw [Bool.and_eq_true] at this
            exact ⟨of_decide_eq_true this.1, of_decide_eq_true this.2⟩)
          have HG0 := Lib.hid hG
          clear hG
          go_loopw [13, 16] (fun v s w3 => ∃ (S O : List Int) (ps : Option Addr) (cs : Nat) (po : Option Addr) (co : Nat), s = .slice ps S.length cs ∧ v = .slice po O.length co ∧ O ++ (stkLeaves d k S).map (nameOf d k) = G ∧ DnSt W w3 d k N tb ib (tbCells L d pr cr R) S O ps cs po co) (fun _ s w3 => nodes d k (stkOf w3 s))
          case atStart => exact ⟨[x], O, _, 1, po, co, rfl, rfl, by rw [← HG0.out]; simp [stkLeaves], S1.out⟩
          case round =>
            clear ST S1 HO HG0
            obtain ⟨S, O, ps, cs, po, co, rfl, rfl, hG, hst⟩ := hrel
            have ST := Lib.hid hst
            have HG1 := Lib.hid hG
            clear hst hG
            rcases List.eq_nil_or_concat S with rfl | ⟨S, y, rfl⟩
            · have E := Lib.hid (show O = G from by have := HG1.out; rwa [stkLeaves_nil, List.map_nil, List.append_nil] at this)
              go_wp2_with fail
              go_roundw
              case rel => exact ⟨m + 1, by go_num, by omega, O, po, co, rfl, by rw [E.out, HG.out], ST.out.wipe⟩
              case measure => simp [intOf]; omega
            · have OK := Lib.hid (ST.out.ok y (by simp))
              have hsl : (S.concat y).length = S.length + 1 := by simp
              have hA := ST.out.stk
              obtain ⟨sa, rfl⟩ := arr_some hA (by omega)
              have cy : wr.cell? ⟨sa, S.length, none⟩ = some (.int .i64 y) := by
                refine (arr_cell hA S.length (by omega)).trans ?_
                simp [ints]
              have hcap := (arr_cap hA).1
              have P := Lib.hid (DnSt.pop (by have := ST.out; rwa [List.concat_eq_append] at this))
              have SM := Lib.hid (stkOf_arr hA)
              have HG2 := Lib.hid (show O ++ ((leavesOf d k y).map (nameOf d k) ++ (stkLeaves d k S).map (nameOf d k)) = G from by
                have := HG1.out
                rwa [List.concat_eq_append, stkLeaves_snoc, List.map_append] at this)
              have bx := ST.out.box
              have b0 := blk_cell bx 0
              have b1 := blk_cell bx 1
              have b2 := blk_cell bx 2
              have b3 := blk_cell bx 3
              have b4 := blk_cell bx 4
              have b5 := blk_cell bx 5
              simp [tbCells] at b0 b1 b2 b3 b4 b5
              obtain ⟨n1, hn1⟩ : ∃ n1, S.length = n1 := ⟨_, rfl⟩
              rw [hn1] at cy hsl
              rw [hsl] at hcap
              have HSL := Lib.hid hsl
              have HN1 := Lib.hid hn1
              have hn1s : n1 ≤ 256000 := by
                have h1 := stk_len D.out k (S := S) (fun z hz => by have := P.out.ok z hz; have := HN.out; omega)
                have h2 := congrArg List.length HG2.out
                have h3 := GL.out
                simp at h2
                omega
              have C1 := Lib.hid (rank_any wr L d pr cr R y (T.out.on P.out.ext) D.out (by have := OK.out; exact ⟨by omega, by omega⟩))
              rw [hsl]
              clear hA bx hn1 hsl cx hb
              go_wp2_with fail
              refine C1.out.mono ?_
              rintro e W3 ⟨rfl, hx⟩
              have P3 := Lib.hid (P.out.on hx)
              clear hx b0 b1 b2 b3 b4 b5 cy C1
              obtain ⟨hy0, hy1⟩ := OK.out
              rcases rank_split D.out k hy0 (by have := HN.out; omega) with ⟨z, bb, hr, hbb, hlv⟩ | ⟨j, x, hj, rfl, hr, hk, hlv, hl0, hl1, hr0, hr1⟩
              · have LV := Lib.hid hlv
                have hnm : W3.cell? ⟨ib, y.toNat, none⟩ = some (.int .i64 (nameOf d k y)) := by
                  have hlen := (renGo_len d (mx k 0) (256 + d.ms.length)).1
                  have := HN.out
                  refine (arr_cell P3.out.nam y.toNat (by omega)).trans ?_
                  unfold ints nameOf
                  rw [List.getElem?_map, List.getElem?_eq_getElem (by omega)]
                  rfl
                obtain ⟨nm, hnme⟩ : ∃ nm, nameOf d k y = nm := ⟨_, rfl⟩
                rw [hnme] at hnm
                have HG3 := Lib.hid (show O ++ [nm] ++ (stkLeaves d k S).map (nameOf d k) = G from by
                  have := HG2.out
                  rw [LV.out, List.map_cons, List.map_nil, hnme] at this
                  rw [← this]
                  simp)
                have hO1 : O.length < 256000 := by
                  have h2 := congrArg List.length HG3.out
                  have h3 := GL.out
                  simp at h2
                  omega
                have hO2 : decide ((O.length : Int) = 2097152) = false := decide_eq_false (by omega)
                rw [hr]
                clear hr hlv hnme
                have hbb2 : bb = false ∨ (bb = true ∧ decide (z ≥ k) = false) := hbb.imp id (fun h => ⟨h.1, decide_eq_false (by omega)⟩)
                clear hbb
                rcases hbb2 with rfl | ⟨rfl, d1⟩
                all_goals go_wp2_with (at_builtin; refine arr_append1 rfl (.tmp 97) (.tmp 102) 27 3 1 8 (.int .i64 0) rfl Try.underlying27 infoI rfl (by decide) (by decide) po O.length co (ints O) [.int .i64 nm] rfl _ rfl (by simp) rfl (by simp [Value.oneCell']) P3.out.out (by omega) ?_; intro p1 c1 w5 hA1 hx1 hm1; have NX := Lib.hid (P3.out.put (z := nm) (by simpa [ints] using hA1) hx1 hm1); clear hA1 hx1 hm1)
                all_goals go_roundw
                all_goals (first | (case rel => exact ⟨S, O ++ [nm], _, cs, p1, c1, by rw [HN1.out], by simp, HG3.out, NX.out⟩) | skip)
                all_goals
                  rw [show n1 + 1 = (S.concat y).length from HSL.out.symm, SM.out, ← HN1.out, stkOf_arr NX.out.stk, List.concat_eq_append, nodes_snoc, LV.out]
                  simp
              · have LV := Lib.hid hlv
                have HJ := Lib.hid hj
                have HG3 := Lib.hid (show O ++ (stkLeaves d k (S ++ [x.r, x.l])).map (nameOf d k) = G from by
                  have := HG2.out
                  rw [LV.out] at this
                  rw [← this, show S ++ [x.r, x.l] = (S ++ [x.r]) ++ [x.l] from by simp, stkLeaves_snoc, stkLeaves_snoc]
                  simp)
                have d1 : decide ((j : Int) ≥ k) = true := decide_eq_true (by omega)
                have hT := T.out
                rw [hr]
                go_wp2_with fail
                have mkS : ∀ w', Ext (fun i => blkOf (some (⟨sa, 0, none⟩ : Addr)) = some i) W3 w' → (w'.cell? ⟨tb, 0, none⟩ = some (.slice L.p0 d.ws.length L.c0) ∧ w'.cell? ⟨tb, 1, none⟩ = some (.slice L.p1 d.ms.length L.c1) ∧ w'.cell? ⟨tb, 2, none⟩ = some (.slice L.p2 d.ls.length L.c2) ∧
                    w'.cell? ⟨tb, 3, none⟩ = some (.slice L.p3 d.ns.length L.c3) ∧ w'.cell? ⟨tb, 4, none⟩ = some (.slice L.p4 d.ss.length L.c4) ∧ w'.cell? ⟨tb, 5, none⟩ = some (.slice pr R.length cr)) ∧ Ext (fun i => blkOf (some (⟨sa, 0, none⟩ : Addr)) = some i) W3 w' := fun w' e =>
                  have b := e.obj P3.out.box (fun h => by have := P3.out.f1 tb h; omega)
                  ⟨⟨blk_cell b 0, blk_cell b 1, blk_cell b 2, blk_cell b 3, blk_cell b 4, blk_cell b 5⟩, e⟩
                have MS := Lib.hid mkS
                have B0 := Lib.hid (show Ext (fun _ => False) W3 W3.drew from Ext.drew (Ext.refl _ _))
                have B1 := Lib.hid (show Ext (fun i => blkOf (some (⟨sa, 0, none⟩ : Addr)) = some i) W3 W3.drew from Ext.drew (Ext.refl _ _))
                have TW := Lib.hid (show ∀ w', Ext (fun _ => False) W3 w' → TBL w' L d pr cr R from fun w' e => T.out.on (P3.out.ext.trans e (fun _ _ h => h)))
                have hcs : (n1 + 2) * 8 ≤ 140737488355328 := by omega
                have OW := Lib.hid (show ∀ w', Ext (fun _ => False) W3 w' → Arr (w'.alloc (.cells #[.int .i64 x.r, .int .i64 x.l] 3)) 3 1 (some ⟨sa, 0, none⟩) n1 cs (ints S) from fun w' e => HN1.out ▸ arr_ext P3.out.stk (e.trans ((Ext.refl _ _).alloc _) (fun _ _ h => h)) (fun _ _ h => h))
                clear mkS hT hr hk hlv hj
                go_region_held3 (fun w' => (w'.cell? ⟨tb, 0, none⟩ = some (.slice L.p0 d.ws.length L.c0) ∧ w'.cell? ⟨tb, 1, none⟩ = some (.slice L.p1 d.ms.length L.c1) ∧ w'.cell? ⟨tb, 2, none⟩ = some (.slice L.p2 d.ls.length L.c2) ∧
                    w'.cell? ⟨tb, 3, none⟩ = some (.slice L.p3 d.ns.length L.c3) ∧ w'.cell? ⟨tb, 4, none⟩ = some (.slice L.p4 d.ss.length L.c4) ∧ w'.cell? ⟨tb, 5, none⟩ = some (.slice pr R.length cr)) ∧ Ext (fun i => blkOf (some (⟨sa, 0, none⟩ : Addr)) = some i) W3 w')
                  (first | exact MS.out _ (by assumption) | exact MS.out _ B1.out | exact MS.out _ (G2.alloc _))
                  (first
                    | (go_at_call 42; (with_reducible refine (tright_any _ L d pr cr R j x ?_ HJ.out).mono ?_); (exact TW.out _ B0.out); rintro e w1 ⟨rfl, x1⟩; have E1 := B0.out.trans x1 (fun _ _ h => h); have G1 : Ext (fun i => blkOf (some (⟨sa, 0, none⟩ : Addr)) = some i) W3 w1 := E1.mono (fun _ h => h.elim))
                    | (go_at_call 41; (with_reducible refine (tleft_any _ L d pr cr R j x ?_ HJ.out).mono ?_); (exact TW.out _ E1); rintro e w2 ⟨rfl, x2⟩; have E2 := E1.trans x2 (fun _ _ h => h); have G2 : Ext (fun i => blkOf (some (⟨sa, 0, none⟩ : Addr)) = some i) W3 w2 := E2.mono (fun _ h => h.elim))
                    | (refine arr_append_step (by rfl) (.tmp 85) (.tmp 92) 27 3 1 8 (.int .i64 0) rfl Try.underlying27 infoI rfl (by decide) (by decide) (some ⟨sa, 0, none⟩) n1 cs (ints S) rfl (some ⟨w2.heap.size, 0, none⟩) 2 2 rfl [.int .i64 x.r, .int .i64 x.l] rfl (fun ad h => by injection h with h; subst h; exact World.news_of_block (heap_alloc_new w2 _)) (fun h => by cases h) (by simp [Value.oneCell']) (OW.out _ E2) hcs ?_; intro p1 c1 w5 hA1 hx1 hm1; have G5 : Ext (fun i => blkOf (some (⟨sa, 0, none⟩ : Addr)) = some i) W3 w5 := (G2.alloc _).trans hx1 (fun _ _ h => h)))
                go_wp2_with fail
                go_roundw
                case rel => exact ⟨S ++ [x.r, x.l], O, p1, c1, po, co, by simp [HN1.out], rfl, HG3.out, P3.out.push (by simpa [ints, HN1.out] using hA1) G5 (fun i hi => (hm1 i hi).imp id (fun h => by simp at h; have := E2.size; omega)) (fun z hz => by have := HN.out; simp at hz; rcases hz with rfl | rfl <;> omega)⟩
                case measure =>
                  have NX : Arr w5 3 1 p1 (S ++ [x.r, x.l]).length c1 (ints (S ++ [x.r, x.l])) := by simpa [ints, HN1.out] using hA1
                  have e5 := stkOf_arr NX
                  rw [show (S ++ [x.r, x.l]).length = n1 + 2 from by simp [HN1.out]] at e5
                  rw [show n1 + 1 = (S.concat x.i).length from HSL.out.symm, SM.out, e5, List.concat_eq_append, show S ++ [x.r, x.l] = (S ++ [x.r]) ++ [x.l] from by simp, nodes_snoc, nodes_snoc, nodes_snoc, LV.out, List.length_append]
                  have h1 := (leavesOf_len D.out k hl0 hl1).1
                  have h2 := (leavesOf_len D.out k hr0 hr1).1
                  omega
        · have hn2 : m = ids.length := by omega
          have i1 : ¬ ((m : Int) < (ids.length : Int)) := by omega
          have E := Lib.hid (show downT d k ids = (O, 0) from by unfold downT; rw [if_pos ALL.out, HO.out, hn2, List.take_length])
          clear hn2
          go_wp2_with fail
          go_ret2
          exact ⟨po, co, by rw [E.out]; rfl, by rw [E.out]; exact ST.out.out, X.out.trans ST.out.ext (fun _ _ h => h), fun j hj => Nat.le_trans X.out.size (ST.out.f2 j hj).1⟩
end Go.Proofs.Ytbepmbihonnkaaa.Sl

/- law24.known. -/
namespace Go.Proofs.Ytbepmbihonnkaaa.Sl
open Go.Proofs.Ytbepmbihonnkaaa.Lib
open Go.RowKit
set_option linter.unusedVariables false
set_option linter.unusedSimpArgs false
set_option maxRecDepth 100000
theorem house_down : downT houseDat 3 [259, 256] = ([258, 101, 256], 0) := by decide +kernel
theorem house_l : askT houseDat 259 (·.l) = (258, true) := by decide +kernel
theorem house_r : askT houseDat 259 (·.r) = (101, true) := by decide +kernel
theorem house_depth : depthT houseDat 259 = 2 := by decide +kernel
set_option maxHeartbeats 4000000 in
theorem known24_any (w : World) : Calls Try.prog 12 #[] w fun e w' => e = .returned (.bool true) ∧ Ext (fun _ => False) w w' := by
  have RD := Lib.hid (RightD.of_good house_good)
  go_enter Try.func12, Try.ntmps12
  go_wp2_with fail
  refine (house_any _).mono ?_
  rintro e W ⟨L, rfl, hD, hx⟩
  have X1 := Lib.hid hx
  go_wp2_with fail
  refine (of5_any W L houseDat hD).mono ?_
  rintro e W2 ⟨hx2, h⟩
  rcases h with ⟨hg, _⟩ | ⟨hg, a, rfl, hm, hwa⟩
  · rw [house_good] at hg; cases hg
  have X2 := Lib.hid (hx.trans hx2 (fun _ _ h => h))
  have M := Lib.hid hm
  clear hx hx2 hD hg hm X1
  have xl : Ext (fun _ => False) W2 (W2.alloc (.cells #[.int .i64 259, .int .i64 256] 3)) := (Ext.refl _ _).alloc _
  have XL := Lib.hid xl
  have RL := Lib.hid (show Rd eI (W2.alloc (.cells #[.int .i64 259, .int .i64 256] 3)) (some ⟨W2.heap.size, 0, none⟩) [259, 256] from Rd.lit (E := eI) (t := 3) (fr := (0, 0)) (heap_alloc_new W2 _))
  clear xl
  go_wp2_with fail
  refine (down_any _ a houseDat 3 _ 2 [259, 256] (M.out.on XL.out) RD.out RL.out (by decide)).mono ?_
  rintro e W3 ⟨po, co, rfl, hA, hx3, _⟩
  rw [house_down] at hA ⊢
  have OUT := Lib.hid (ints_rd hA)
  have X3 := Lib.hid (XL.out.trans hx3 (fun _ _ h => h))
  clear hA hx3 XL RL
  go_wp2_with fail
  refine (parts_any W3 a houseDat 259 (M.out.on X3.out) RD.out ⟨by decide, by decide⟩).mono ?_
  rintro e W4 ⟨rfl, hx4⟩
  rw [house_l, house_r]
  have X4 := Lib.hid (X3.out.trans hx4 (fun _ _ h => h))
  have xl : Ext (fun _ => False) W4 (W4.alloc (.cells #[.int .i64 258, .int .i64 101, .int .i64 256] 3)) := (Ext.refl _ _).alloc _
  have O4 := Lib.hid (OUT.out.on (hx4.trans xl (fun _ _ h => h)))
  have XL := Lib.hid (X4.out.trans xl (fun _ _ h => h))
  have RL := Lib.hid (show Rd eI (W4.alloc (.cells #[.int .i64 258, .int .i64 101, .int .i64 256] 3)) (some ⟨W4.heap.size, 0, none⟩) [258, 101, 256] from Rd.lit (E := eI) (t := 3) (fr := (0, 0)) (heap_alloc_new W4 _))
  clear hx4 xl OUT
  go_wp2_with fail
  refine (sameI_any _ po _ co 3 [258, 101, 256] [258, 101, 256] O4.out RL.out (by decide)).mono ?_
  rintro e W5 ⟨rfl, hx5⟩
  have X5 := Lib.hid (XL.out.trans hx5 (fun _ _ h => h))
  clear hx5
  go_wp2_with fail
  refine (depth_any W5 a houseDat 259 (M.out.on X5.out) RD.out).mono ?_
  rintro e W6 ⟨rfl, hx6⟩
  rw [house_depth]
  have X6 := Lib.hid (X2.out.trans (X5.out.trans hx6 (fun _ _ h => h)) (fun _ _ h => h))
  clear hx6
  go_wp2_with fail
  go_ret
  exact ⟨rfl, X6.out⟩
end Go.Proofs.Ytbepmbihonnkaaa.Sl
