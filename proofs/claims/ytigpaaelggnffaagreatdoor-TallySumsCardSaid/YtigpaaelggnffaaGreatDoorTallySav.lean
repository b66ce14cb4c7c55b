/- tally.Saved. -/
import Derived.Test.YtigpaaelggnffaaGreatDoorTallyP
import Derived.Test.YtigpaaelggnffaaGreatDoorEncode
import Derived.Test.YtigpaaelggnffaaGreatDoorWithin1
namespace Go.Proofs.YtigpaaelggnffaaGreatDoor.Ty
open Go.RowKit Go.Proofs.YtigpaaelggnffaaGreatDoor.Lib Go.Proofs.YtigpaaelggnffaaGreatDoor.Sl Go.Proofs.YtigpaaelggnffaaGreatDoor.Bpe
set_option linter.unusedVariables false
set_option linter.unusedSimpArgs false

theorem cellR {w : World} {p : Option Addr} {l : List TRow} (h : Rd eTR w p l) {i : Nat} {x : TRow} (hi : l[i]? = some x) : ∃ b o, p = some ⟨b, o, none⟩ ∧ b < w.heap.size ∧
    w.cell? ⟨b, o + i * 2, none⟩ = some (.int .i64 x.id) ∧ w.cell? ⟨b, o + i * 2 + 1, none⟩ = some (.int .i64 x.n) := by
  obtain ⟨b, o, hp, hb, hc⟩ := h i x hi
  exact ⟨b, o, hp, hb, by simpa [eTR] using hc 0 (by decide), by simpa [eTR] using hc 1 (by decide)⟩
/-- What is saved so far; the number of a refusal. -/
def savedGo (d : Dat) : Int → List TRow → Int × Int
  | n, [] => (n, 0)
  | n, r :: t => if okId d r.id = false then (0, 24) else if r.n < 0 ∨ 2147483648 < r.n then (0, 1) else savedGo d (n + r.n * (((wb d r.id).length : Int) - 1)) t
def savedT (d : Dat) (l : List TRow) : Int × Int := if 65536 < l.length then (0, 4) else savedGo d 0 l
set_option maxRecDepth 100000 in
set_option maxHeartbeats 4000000 in
theorem saved_any {w : World} {m : Nat} {d : Dat} (hm : IsModel w m d) (hd : RightD d) (p : Option Addr) (c : Nat) (l : List TRow) (hl : Rd eTR w p l) (hn : l.length ≤ 281474976710656) :
    Calls Tryz.prog 33 #[.pointer (some ⟨m, 0, none⟩), .slice p l.length c] w fun e w' => e = .returned (.tuple #[.int .i64 (savedT d l).1, .int .i64 (savedT d l).2]) ∧ Ext (fun _ => False) w w' := by
  have hq : ∀ W, (binOp .eql 27 (.pointer (some ⟨m, 0, none⟩)) (.pointer none)).run Tryz.prog W = .ok (.bool false) W := fun W => by kernel_rfl
  have HM := Lib.hid hm
  have HD := Lib.hid hd
  have HL := Lib.hid hl
  clear hm hd hl
  by_cases hbig : 65536 < l.length
  · have i1 : (l.length : Int) > 65536 := by omega
    have E := Lib.hid (show savedT d l = (0, 4) from if_pos hbig)
    go_enter Tryz.func33, Tryz.ntmps33
    go_wp2_with fail
    refine bodyPost_ret (v := .tuple #[.int .i64 0, .int .i64 4]) (by simp [results, Tryz.f33, go_sem]) rfl ?_
    exact ⟨by rw [E.out], Ext.refl _ _⟩
  have i1 : ¬ (l.length : Int) > 65536 := by omega
  have E := Lib.hid (show savedT d l = savedGo d 0 l from if_neg hbig)
  clear hbig
  go_enter Tryz.func33, Tryz.ntmps33
  go_wp2_with fail
  go_loopw [6, 20] (fun vn vk wr => ∃ (n : Int) (k : Nat), vn = .int .i64 n ∧ vk = .int .i64 k ∧ k ≤ l.length ∧ 0 ≤ n ∧ n ≤ 547608330240 * (k : Int) ∧ savedGo d n (l.drop k) = savedGo d 0 l ∧ Ext (fun _ => False) w wr) (fun _ vk _ => l.length - (intOf vk).toNat)
  case atStart => exact ⟨0, 0, rfl, rfl, Nat.zero_le _, Int.le_refl _, by omega, rfl, Ext.refl _ _⟩
  case round =>
    obtain ⟨n, k, rfl, rfl, hk, hn0, hn1, hs, hx⟩ := hrel
    have HS := Lib.hid hs
    have HX := Lib.hid hx
    clear hs
    by_cases hlt : k < l.length
    · have i2 : (k : Int) < (l.length : Int) := by omega
      obtain ⟨x, hget⟩ : ∃ x, l[k]? = some x := ⟨_, List.getElem?_eq_getElem hlt⟩
      obtain ⟨b, o, rfl, hb, c0, c1⟩ := cellR (HL.out.on hx) hget
      have hdrop : l.drop k = x :: l.drop (k + 1) := by
        have e1 := List.getElem_cons_drop hlt
        rw [← e1]
        congr 1
        rw [List.getElem?_eq_getElem hlt] at hget
        exact Option.some.inj hget
      have HS1 := HS.out
      rw [hdrop] at HS1
      have wbl := wb_le HD.out x.id
      have hws : ((wordOf d.ws x.id).1).size = (wb d x.id).length := (ba_size _).symm
      have WI := fun W (h : Ext (fun _ => False) w W) => wordI_any (HM.out.on h) HD.out x.id
      obtain ⟨wx, hwx⟩ : ∃ s, (wordOf d.ws x.id).1 = s := ⟨_, rfl⟩
      rw [hwx] at WI hws
      obtain ⟨xi, xn⟩ := x
      simp only at c0 c1 WI hws HS1 wbl
      obtain ⟨ok, hok⟩ : ∃ ok, okId d xi = ok := ⟨_, rfl⟩
      rw [hok] at WI
      have OK := Lib.hid hok
      have WI := Lib.hid WI
      have HS2 := Lib.hid HS1
      have WS := Lib.hid hws
      have WP := Lib.hid (show ok = true → 0 < (wb d xi).length from fun h => wb_pos HD.out (by rw [OK.out]; exact h))
      have X1 := Lib.hid (hx.alloc (.cells #[.int .i64 xi, .int .i64 xn] 45))
      clear hget hdrop HS1 hwx hok hx hws
      go_wp2_with fail
      refine (WI.out _ X1.out).mono ?_
      rintro e W2 ⟨rfl, hx2⟩
      have hob := hx2.obj (heap_alloc_new wr (.cells #[.int .i64 xi, .int .i64 xn] 45)) (fun h => h)
      have d0 := blk_cell hob 0
      have d1 := blk_cell hob 1
      simp at d0 d1
      have X2 := Lib.hid (X1.out.trans hx2 (fun _ _ h => h))
      clear hx2 hob WI
      cases ok with
      | false =>
        have R := Lib.hid (show savedT d l = (0, 24) from by rw [E.out, ← HS2.out]; unfold savedGo; rw [if_pos OK.out])
        go_wp2_with fail
        refine bodyPost_ret (v := .tuple #[.int .i64 0, .int .i64 24]) (by simp [results, Tryz.f33, go_sem]) rfl ?_
        exact ⟨by rw [R.out], X2.out⟩
      | true =>
        have NF := Lib.hid (show ¬ okId d xi = false from by rw [OK.out]; decide)
        by_cases hneg : xn < 0
        · have R := Lib.hid (show savedT d l = (0, 1) from by rw [E.out, ← HS2.out]; unfold savedGo; rw [if_neg NF.out, if_pos (.inl hneg)])
          go_wp2_with fail
          refine bodyPost_ret (v := .tuple #[.int .i64 0, .int .i64 1]) (by simp [results, Tryz.f33, go_sem]) rfl ?_
          exact ⟨by rw [R.out], X2.out⟩
        by_cases hmany : 2147483648 < xn
        · have R := Lib.hid (show savedT d l = (0, 1) from by rw [E.out, ← HS2.out]; unfold savedGo; rw [if_neg NF.out, if_pos (.inr hmany)])
          have i4 : xn > 2147483648 := hmany
          go_wp2_with fail
          refine bodyPost_ret (v := .tuple #[.int .i64 0, .int .i64 1]) (by simp [results, Tryz.f33, go_sem]) rfl ?_
          exact ⟨by rw [R.out], X2.out⟩
        have i4 : ¬ xn > 2147483648 := hmany
        have R := Lib.hid (show savedGo d (n + xn * (((wb d xi).length : Int) - 1)) (l.drop (k + 1)) = savedGo d 0 l from by rw [← HS2.out]; conv => rhs; unfold savedGo; rw [if_neg NF.out, if_neg (show ¬ (xn < 0 ∨ 2147483648 < xn) by omega)])
        have wp := WP.out rfl
        rw [← WS.out] at R wp wbl
        obtain ⟨s1, hs1⟩ : ∃ s1, wx.size = s1 + 1 := ⟨wx.size - 1, by omega⟩
        have e1 : (wx.size : Int) - 1 = (s1 : Int) := by omega
        have s2 : s1 ≤ 255 := by omega
        rw [e1] at R
        obtain ⟨pr, hpr⟩ : ∃ pr, xn * (s1 : Int) = pr := ⟨_, rfl⟩
        have p0 : 0 ≤ pr := by rw [← hpr]; exact Int.mul_nonneg (by omega) (by omega)
        have p1 : pr ≤ 547608330240 := by
          rw [← hpr]
          have h1 : xn * (s1 : Int) ≤ 2147483648 * (s1 : Int) := Int.mul_le_mul_of_nonneg_right (by omega) (by omega)
          omega
        rw [hpr] at R
        clear hs1 wp wbl
        go_wp2_with fail
        go_roundw
        case rel => exact ⟨n + pr, k + 1, rfl, by go_num, hlt, by omega, by omega, R.out, X2.out⟩
        case measure => simp [intOf]; omega
    · obtain rfl : k = l.length := by omega
      have i2 : ¬ ((l.length : Int) < (l.length : Int)) := by omega
      have R := Lib.hid (show savedT d l = (n, 0) from by rw [E.out, ← HS.out, List.drop_length]; rfl)
      go_wp2_with fail
      refine bodyPost_ret (v := .tuple #[.int .i64 n, .int .i64 0]) (by simp [results, Tryz.f33, go_sem]) rfl ?_
      exact ⟨by rw [R.out], HX.out⟩
end Go.Proofs.YtigpaaelggnffaaGreatDoor.Ty
