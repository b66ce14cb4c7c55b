/- bpe.Joined. -/
import Derived.Test.YtbepmbihonnkaaaBpeJoinP
import Derived.Test.YtbepmbihonnkaaaBpeLeft
import Derived.Deep.LoopGhost
namespace Go.Proofs.Ytbepmbihonnkaaa.Bpe
open Go.RowKit Go.Proofs.Ytbepmbihonnkaaa.Lib Go.Proofs.Ytbepmbihonnkaaa.Sl Go.Proofs.Ytbepmbihonnkaaa.Chain Go.Proofs.Ytbepmbihonnkaaa.ElBpe Go.Proofs.Ytbepmbihonnkaaa.HeapPure
set_option linter.unusedVariables false
set_option linter.unusedSimpArgs false

def JoinedEnd (w : World) (l : List Int) (y : Int) (e : Ending) (w' : World) : Prop :=
  ∃ p c, e = .returned (.tuple #[.slice p l.length c, .int .i64 y]) ∧ Arr w' 3 1 p l.length c (Chain.ints l) ∧ Ext (fun _ => False) w w' ∧ ∀ k, blkOf p = some k → w.heap.size ≤ k
/-- Where the merging stands. -/
def JoSt (w wr : World) (b : Nat) (d : Dat) (ids : List Int) (P : Pw) (g : Nat) : Prop :=
  ∃ I al H p2 c2, St w.heap.size wr b d ids.length I al H P p2 c2 ∧ Heap HeapB.less H ∧ BInv d.ms ids.length I al H ∧ (joinT d.ms (cur I al ids.length)).1 = (joinT d.ms ids).1 ∧ cnt al ids.length = g ∧ Ext (fun _ => False) w wr
set_option maxRecDepth 100000 in
set_option maxHeartbeats 2000000 in
theorem joined_any {w : World} {m : Nat} {d : Dat} (hm : IsModel w m d) (hd : RightD d) {p : Option Addr} {c : Nat} {ids : List Int} (hr : Rd eI w p ids) :
    Calls Try.prog 32 #[.pointer (some ⟨m, 0, none⟩), .slice p ids.length c] w fun e w' => JoinedEnd w (joinedT d ids).1 (joinedT d ids).2 e w' := by
  obtain ⟨ps, cs, hsz⟩ : ∃ p c, ∀ W, Ext (fun _ => False) w W → W.cell? ⟨m, 0, none⟩ = some (.slice p d.ws.length c) := by
    obtain ⟨L, tp, mp, q0, q1, q2, d0, d1, d2, hM⟩ := hm
    exact ⟨L.p0, L.c0, fun W hx => (hM.on hx).blk.c0⟩
  have hlen := hd.len
  have hfew := hd.few
  have SZ := Lib.hid (fun W hx => show Calls Try.prog 22 #[.pointer (some ⟨m, 0, none⟩)] W fun e w' => e = .returned (.int .i64 (256 + (d.ms.length : Int))) ∧ W = w' from by
    have := size_any W m ps d.ws.length cs (hsz W hx) (by omega)
    rwa [hlen] at this)
  have HM := Lib.hid hm
  have HD := Lib.hid hd
  have Q := Lib.hid hr
  have hq : ∀ W, (binOp .eql 28 (.pointer (some ⟨m, 0, none⟩)) (.pointer none)).run Try.prog W = .ok (.bool false) W := fun W => by kernel_rfl
  clear hsz hm hd hlen hr
  go_enter Try.func32, Try.ntmps32
  by_cases hbig : 1048576 < ids.length
  · have E := Lib.hid (show joinedT d ids = ([], 3) from if_pos hbig)
    have i0 : decide ((ids.length : Int) > 1048576) = true := decide_eq_true (by omega)
    clear hbig
    go_wp2_with fail
    go_ret2
    exact ⟨none, 0, by rw [E.out]; rfl, by rw [E.out]; exact arr_nil _ _ _, by repeat (first | exact Ext.refl _ _ | refine Ext.drew ?_ | refine Ext.drewN ?_ _ | refine Ext.alloc ?_ _), fun j hj => by cases hj⟩
  · have i0 : decide ((ids.length : Int) > 1048576) = false := decide_eq_false (by omega)
    have hle : ids.length ≤ 1048576 := by omega
    clear hbig
    go_wp2_with fail
    go_loopw [20] (fun i wr => ∃ k : Nat, i = .int .i64 k ∧ k ≤ ids.length ∧ wr = w ∧ (ids.take k).all (okId d) = true) (fun i _ => ids.length - (intOf i).toNat)
    case atStart => exact ⟨0, rfl, by omega, rfl, rfl⟩
    case round =>
      obtain ⟨k, rfl, hk, hwr, hv⟩ := hrel
      have hwr := hwr.symm
      subst hwr
      have HV := Lib.hid hv
      clear hv
      by_cases hlt : k < ids.length
      · have i1 : (k : Int) < (ids.length : Int) := by omega
        obtain ⟨x, hx⟩ : ∃ x, ids[k]? = some x := ⟨_, List.getElem?_eq_getElem hlt⟩
        obtain ⟨b, o, hp, hb, cx⟩ := Q.out.cellI hx
        have HX := Lib.hid hx
        clear hx
        have bad : okId d x = false → joinedT d ids = ([], 24) := by
          intro hb
          unfold joinedT
          rw [if_neg (by omega), if_neg]
          rw [List.all_eq_true]
          intro hall
          rw [hall x (List.mem_of_getElem? HX.out)] at hb
          cases hb
        have BAD := Lib.hid bad
        have next : okId d x = true → (ids.take (k + 1)).all (okId d) = true := by
          intro hb
          rw [List.take_add_one, HX.out, List.all_append, HV.out]
          simp [hb]
        have NEXT := Lib.hid next
        clear bad next
        rw [hp]
        by_cases h0 : x < 0
        · have E := Lib.hid (BAD.out (by unfold okId; rw [decide_eq_false (by omega)]; rfl))
          have d0 : decide (x < 0) = true := decide_eq_true h0
          clear h0
          go_wp2_with fail
          go_ret2
          exact ⟨none, 0, by rw [E.out]; rfl, by rw [E.out]; exact arr_nil _ _ _, Ext.refl _ _, fun j hj => by cases hj⟩
        · have d0 : decide (x < 0) = false := decide_eq_false h0
          by_cases h1 : 256 + (d.ms.length : Int) ≤ x
          · have E := Lib.hid (BAD.out (by unfold okId; rw [decide_eq_false (show ¬ x < 256 + (d.ms.length : Int) by omega), Bool.and_false]))
            have d1 : decide (x ≥ 256 + (d.ms.length : Int)) = true := decide_eq_true h1
            clear h0 h1
            go_wp2_with fail
            refine (SZ.out _ (Ext.refl _ _)).mono ?_
            rintro e w' ⟨rfl, rfl⟩
            go_wp2_with fail
            go_ret2
            exact ⟨none, 0, by rw [E.out]; rfl, by rw [E.out]; exact arr_nil _ _ _, Ext.refl _ _, fun j hj => by cases hj⟩
          · have OK := Lib.hid (NEXT.out (by unfold okId; rw [decide_eq_true (show 0 ≤ x by omega), decide_eq_true (show x < 256 + (d.ms.length : Int) by omega)]; rfl))
            have d1 : decide (x ≥ 256 + (d.ms.length : Int)) = false := decide_eq_false h1
            clear h0 h1
            go_wp2_with fail
            refine (SZ.out _ (Ext.refl _ _)).mono ?_
            rintro e w' ⟨rfl, rfl⟩
            go_wp2_with fail
            go_roundw
            case rel => exact ⟨k + 1, by go_num, hlt, trivial, OK.out⟩
            case measure => simp [intOf]; omega
      · have i1 : ¬ (k : Int) < (ids.length : Int) := by omega
        have E := Lib.hid (show joinedT d ids = ((joinT d.ms ids).1, 0) from by
          have hv := HV.out
          rw [List.take_of_length_le (by omega)] at hv
          unfold joinedT
          rw [if_neg (by omega), if_pos hv])
        clear HV
        go_wp2_with fail
        refine (begin_any HM.out HD.out.pn Q.out hle).mono ?_
        rintro e w1 ⟨b, P, p2, c2, H, rfl, _, hS, hH, hB, hx⟩
        have S0 := Lib.hid (show JoSt w w1 b d ids P ids.length from ⟨ids, allAl ids.length, H, p2, c2, hS, hH, hB, by rw [cur_all], cnt_all _ _ (Nat.le_refl _), hx⟩)
        clear hS hH hB hx
        go_wp2_with fail
        go_loopg [] ids.length (fun gk wr => JoSt w wr b d ids P gk)
        case atStart => exact S0.out
        case round =>
          obtain ⟨I, al, H1, p3, c3, hS, hH, hB, hj, hg, hx⟩ := hrel
          have ST := Lib.hid (And.intro hS (And.intro hB (And.intro hj (And.intro hg hx))))
          have SP := Lib.hid (step_any hS hH hB HD.out.pn hle)
          clear hS hH hB hj hg hx S0
          go_wp2_with fail
          refine SP.out.mono ?_
          rintro e w2 ⟨y2, h⟩
          have X2 := Lib.hid (show Ext (fun _ => False) w w2 from ST.out.2.2.2.2.trans y2 (fun i hi hk => by have := ST.out.1.own hk; omega))
          rcases h with ⟨hn, rfl, c4, H4, s4, k4, v4⟩ | ⟨x, hn, hv, hb, rfl, p4, c4, H4, s4, k4, v4, m4⟩
          · have S4 := Lib.hid s4
            have J := Lib.hid (show cur I al ids.length = (joinT d.ms ids).1 from by rw [← ST.out.2.2.1, joinT_none hn])
            clear s4 k4 v4 y2 hn
            go_wp2_with fail
            refine (left_any (S4.out.on (by repeat (first | exact Ext.refl _ _ | refine Ext.drew ?_ | refine Ext.alloc ?_ _ | refine Ext.setCell ?_ (fun h => by simp at h) _)))).mono ?_
            rintro e w5 ⟨p5, c5, rfl, a5, x5, f5⟩
            have A5 := Lib.hid a5
            have X5 := Lib.hid x5
            have F5 := Lib.hid f5
            clear a5 x5 f5
            go_wp2_with fail
            go_ret2
            have hl : (joinedT d ids).1.length = cnt al ids.length := by rw [E.out, ← J.out]; exact cur_length I al ids.length
            refine ⟨p5, c5, (by rw [hl, E.out]; rfl), (by rw [hl, E.out, ← J.out]; exact A5.out), ?_, fun k hk => ?_⟩
            · exact (X2.out.trans ((Ext.refl _ _).alloc _) (fun _ _ h => h)).trans X5.out (fun _ _ h => h)
            · have h1 := F5.out k hk
              have h2 := X2.out.size
              simp at h1
              omega
          · have SJ := Lib.hid (step_join ST.out.1.len hn hv)
            have NX := Lib.hid (show JoSt w w2 b d ids P (cnt (cutAl al x.f2.toNat) ids.length) from ⟨_, _, H4, p4, c4, s4, k4, v4, by rw [← ST.out.2.2.1, SJ.out.1], rfl, X2.out⟩)
            clear s4 k4 v4 m4 hb hv hn y2
            have hg2 := ST.out.2.2.2.1
            go_wp2_with fail
            go_roundg (cnt (cutAl al x.f2.toNat) ids.length)
            case measure => have := SJ.out.2; omega
            case rel =>
              obtain ⟨I', al', H', p', c', z1, z2, z3, z4, z5, z6⟩ := NX.out
              exact ⟨I', al', H', p', c', z1.on ((Ext.refl _ _).alloc _), z2, z3, z4, z5, z6.alloc _⟩
end Go.Proofs.Ytbepmbihonnkaaa.Bpe
