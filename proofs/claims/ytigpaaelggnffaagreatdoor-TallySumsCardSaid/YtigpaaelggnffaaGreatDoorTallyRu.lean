/- tesseraref23.Unused, Saved. -/
import Derived.Test.YtigpaaelggnffaaGreatDoorTallyPl
namespace Go.Proofs.YtigpaaelggnffaaGreatDoor.Ty
open Go.RowKit Go.Proofs.YtigpaaelggnffaaGreatDoor.Lib Go.Proofs.YtigpaaelggnffaaGreatDoor.Sl Go.Proofs.YtigpaaelggnffaaGreatDoor.Bpe Go.Proofs.YtigpaaelggnffaaGreatDoor.Cut
set_option linter.unusedVariables false
set_option linter.unusedSimpArgs false

structure UrSt (w W : World) (out : List Int) (p : Option Addr) (c : Nat) : Prop where
  arr : Arr W 3 1 p out.length c (ints out)
  ext : Ext (fun _ => False) w W
  fr : ∀ j, blkOf p = some j → w.heap.size ≤ j
  z : out.length = 0 → p = none ∧ c = 0
set_option maxRecDepth 100000 in
set_option maxHeartbeats 8000000 in
theorem unusedR_any (w : World) (L : Pl) (d : Dat) (hd : RightD d) (p : Option Addr) (c : Nat) (l : List TRow) (hl : Rd eTR w p l) (hn : l.length ≤ 281474976710656) :
    Calls Tryz.prog 36 #[.agg #[.slice L.p0 d.ws.length L.c0, .slice L.p1 d.ms.length L.c1, .slice L.p2 d.ls.length L.c2, .slice L.p3 d.ns.length L.c3, .slice L.p4 d.ss.length L.c4], .slice p l.length c] w fun e w' => UsEnd w (unusedT l (256 + d.ms.length)) e w' := by
  obtain ⟨W, hW, hX, b0, b1, hs⟩ := dbox w L d
  have hlen := hd.len
  have hfew := hd.few
  rw [hlen] at b0
  have X := Lib.hid hX
  have HW := Lib.hid hW
  have HL := Lib.hid (hl.on hX)
  obtain ⟨N, hN⟩ : ∃ N, 256 + d.ms.length = N := ⟨_, rfl⟩
  have hNb : N ≤ 1048576 := by omega
  have hNi : (256 + (d.ms.length : Int)) = (N : Int) := by omega
  have HS := Lib.hid hs
  rw [hN]
  have CE := Lib.hid (show ∀ w', Ext (fun _ => False) W w' → w'.cell? ⟨w.heap.size, 0, none⟩ = some (.slice L.p0 d.ms.length L.c0) from fun w' hx => (hx.cell (p := ⟨w.heap.size, 0, none⟩) (by show w.heap.size < _; omega) (fun h => h)).trans b0)
  have S0 := Lib.hid (show UrSt W W (unusedT l 0) none 0 from ⟨arr_nil W _ _, Ext.refl _ _, (fun j hj => by cases hj), fun _ => ⟨rfl, rfl⟩⟩)
  clear hlen hl hfew hN hX hW hs hd b1
  go_enter Tryz.func36, Tryz.ntmps36
  go_wp2_with fail
  rw [HW.out]
  go_loopw [5, 6] (fun v vk wr => ∃ (k : Nat) (p1 : Option Addr) (c1 : Nat), v = .slice p1 (unusedT l k).length c1 ∧ vk = .int .i64 k ∧ k ≤ N ∧ UrSt W wr (unusedT l k) p1 c1) (fun _ vk _ => N - (intOf vk).toNat)
  case atStart => exact ⟨0, none, 0, rfl, rfl, Nat.zero_le _, S0.out⟩
  case round =>
    obtain ⟨k, p1, c1, rfl, rfl, hk, hst⟩ := hrel
    have ST := Lib.hid hst
    have ce := CE.out _ hst.ext
    by_cases hlt : k < N
    · have i1 : (k : Int) < 256 + (d.ms.length : Int) := by omega
      have NI := Lib.hid hNi
      clear hst b0
      go_wp2_with fail
      go_loopw [7, 8] (fun v vi wr2 => ∃ i : Nat, vi = .int .i64 i ∧ v = .bool (usedB (l.take i) (k : Int)) ∧ i ≤ l.length ∧ wr = wr2) (fun _ vi _ => l.length - (intOf vi).toNat)
      case atStart => exact ⟨0, rfl, rfl, Nat.zero_le _, rfl⟩
      case round =>
        obtain ⟨i, rfl, rfl, hi, rfl⟩ := hrel
        by_cases hlt2 : i < l.length
        · have i2 : (i : Int) < (l.length : Int) := by omega
          obtain ⟨x, hget⟩ : ∃ x, l[i]? = some x := ⟨_, List.getElem?_eq_getElem hlt2⟩
          obtain ⟨b, o, rfl, hb, c0, c1'⟩ := (HL.out.on ST.out.ext).cellR hget
          have SN := Lib.hid (show usedB (l.take (i + 1)) (k : Int) = (usedB (l.take i) (k : Int) || (decide (x.id = (k : Int)) && decide (0 < x.n))) from by rw [List.take_add_one, hget]; exact usedB_snoc _ _ _)
          obtain ⟨q, hq⟩ : ∃ q, usedB (l.take i) (k : Int) = q := ⟨_, rfl⟩
          rw [hq] at SN ⊢
          obtain ⟨xi, xn⟩ := x
          simp only at c0 c1' SN
          have ce := CE.out _ ST.out.ext
          clear hget hq
          cases q with
          | true =>
            go_wp2_with fail
            go_roundw
            case rel => exact ⟨i + 1, by go_num, by rw [SN.out]; rfl, hlt2, trivial⟩
            case measure => simp [intOf]; omega
          | false =>
            by_cases hx : xi = (k : Int)
            · subst hx
              by_cases hp : 0 < xn
              · have d2 : xn > 0 := hp
                have E := Lib.hid (show usedB (l.take (i + 1)) (k : Int) = true from by rw [SN.out, decide_eq_true hp]; simp)
                clear SN
                go_wp2_with fail
                go_roundw
                case rel => exact ⟨i + 1, by go_num, by rw [E.out], hlt2, trivial⟩
                case measure => simp [intOf]; omega
              · have d2 : ¬ xn > 0 := hp
                have E := Lib.hid (show usedB (l.take (i + 1)) (k : Int) = false from by rw [SN.out, decide_eq_false hp]; simp)
                clear SN
                go_wp2_with fail
                go_roundw
                case rel => exact ⟨i + 1, by go_num, by rw [E.out], hlt2, trivial⟩
                case measure => simp [intOf]; omega
            · have E := Lib.hid (show usedB (l.take (i + 1)) (k : Int) = false from by rw [SN.out, decide_eq_false hx]; rfl)
              clear SN
              go_wp2_with fail
              go_roundw
              case rel => exact ⟨i + 1, by go_num, by rw [E.out], hlt2, trivial⟩
              case measure => simp [intOf]; omega
        · obtain rfl : i = l.length := by omega
          have i2 : ¬ ((l.length : Int) < (l.length : Int)) := by omega
          rw [List.take_length]
          by_cases hub : usedB l (k : Int) = true
          · have E := Lib.hid (show unusedT l (k + 1) = unusedT l k from by show unusedT l k ++ _ = _; rw [if_pos hub, List.append_nil])
            rw [hub]
            clear hub
            go_wp2_with fail
            go_roundw
            case rel => exact ⟨k + 1, p1, c1, by rw [E.out], by go_num, hlt, by rw [E.out]; exact ST.out⟩
            case measure => simp [intOf]; omega
          · have E := Lib.hid (show unusedT l (k + 1) = unusedT l k ++ [(k : Int)] from by show unusedT l k ++ _ = _; rw [if_neg hub])
            have hf : usedB l (k : Int) = false := by cases h : usedB l (k : Int) with | true => exact absurd h hub | false => rfl
            rw [hf]
            have A1 := Lib.hid ST.out.arr
            have ul := unusedT_length l k
            obtain ⟨n1, hn1⟩ : ∃ n1, (unusedT l k).length = n1 := ⟨_, rfl⟩
            rw [hn1] at A1 ul
            have N1 := Lib.hid hn1
            have fin : ∀ (p3 : Option Addr) (c3 : Nat) (w3 : World), Arr w3 3 1 p3 (n1 + 1) c3 (ints (unusedT l k) ++ [.int .i64 (k : Int)]) → Ext (fun j => blkOf p1 = some j) wr w3 → Moved wr p1 p3 → UrSt W w3 (unusedT l (k + 1)) p3 c3 ∧ (unusedT l (k + 1)).length = n1 + 1 := fun p3 c3 w3 hA hx hm => by
              have el : (unusedT l (k + 1)).length = n1 + 1 := by rw [E.out, List.length_append, N1.out]; rfl
              refine ⟨⟨by rw [el, E.out]; simpa [ints] using hA, ST.out.ext.trans hx (fun i hi e => by have := ST.out.fr i e; omega), fun j hj => ?_, fun h => by omega⟩, el⟩
              rcases hm j hj with h | h
              · exact ST.out.fr j h
              · have := ST.out.ext.size; omega
            have FIN := Lib.hid fin
            clear hub hf fin hn1
            rw [N1.out]
            go_wp2_with (at_builtin; refine arr_append1 rfl (.tmp 43) (.tmp 45) 62 3 1 8 (.int .i64 0) rfl Tryz.underlying62 infoI rfl (by decide) (by decide) p1 n1 c1 (ints (unusedT l k)) [.int .i64 k] rfl _ rfl (by simp) rfl (by simp [Value.oneCell']) A1.out (by omega) ?_; intro p3 c3 w3 hA3 hx3 hm3)
            have NX := Lib.hid (FIN.out p3 c3 w3 hA3 hx3 hm3)
            clear hA3 hx3 hm3
            go_roundw
            case rel => exact ⟨k + 1, p3, c3, by rw [NX.out.2], by go_num, hlt, NX.out.1⟩
            case measure => simp [intOf]; omega
    · obtain rfl : k = N := by omega
      have i1 : ¬ (k : Int) < 256 + (d.ms.length : Int) := by omega
      clear hst b0 hNi
      go_wp2_with fail
      go_ret
      exact ⟨p1, c1, rfl, ST.out.arr, X.out.trans ST.out.ext (fun _ _ h => h), fun j hj => Nat.le_trans X.out.size (ST.out.fr j hj), ST.out.z⟩
end Go.Proofs.YtigpaaelggnffaaGreatDoor.Ty
