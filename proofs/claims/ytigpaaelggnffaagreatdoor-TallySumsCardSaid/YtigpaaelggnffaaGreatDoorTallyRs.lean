/- tesseraref23.Saved. -/
import Derived.Test.YtigpaaelggnffaaGreatDoorTallyRu
import Derived.Test.YtigpaaelggnffaaGreatDoorTallySav
namespace Go.Proofs.YtigpaaelggnffaaGreatDoor.Ty
open Go.RowKit Go.Proofs.YtigpaaelggnffaaGreatDoor.Lib Go.Proofs.YtigpaaelggnffaaGreatDoor.Sl Go.Proofs.YtigpaaelggnffaaGreatDoor.Bpe Go.Proofs.YtigpaaelggnffaaGreatDoor.Cut
set_option linter.unusedVariables false
set_option linter.unusedSimpArgs false

theorem wfI {n : Int} (h : inI n) : (Lit.int .i64 n).wf = true := by
  unfold inI at h
  simp [Lit.wf, IntKind.min, IntKind.max, IntKind.signed, IntKind.bits]
  omega
set_option maxRecDepth 100000 in
set_option maxHeartbeats 8000000 in
theorem savedR_any (w : World) (L : Pl) (d : Dat) (h : DR w L d) (hd : RightD d) (p : Option Addr) (c : Nat) (l : List TRow) (hl : Rd eTR w p l) (hn : l.length ≤ 281474976710656) (hok : ∀ r ∈ l, inI r.id ∧ inI r.n) :
    Calls Tryz.prog 34 #[.agg #[.slice L.p0 d.ws.length L.c0, .slice L.p1 d.ms.length L.c1, .slice L.p2 d.ls.length L.c2, .slice L.p3 d.ns.length L.c3, .slice L.p4 d.ss.length L.c4], .slice p l.length c] w fun e w' => e = .returned (.tuple #[.int .i64 (savedT d l).1, .int .i64 (savedT d l).2]) ∧ Ext (fun _ => False) w w' := by
  obtain ⟨W, hW, hX, b0, b1, hs⟩ := dbox w L d
  have B5 := Lib.hid (show W.heap[w.heap.size]? = some (.cells #[.slice L.p0 d.ws.length L.c0, .slice L.p1 d.ms.length L.c1, .slice L.p2 d.ls.length L.c2, .slice L.p3 d.ns.length L.c3, .slice L.p4 d.ss.length L.c4] 26 (0, 0)) from by rw [← hW]; exact heap_alloc_new w _)
  have X := Lib.hid hX
  have R := Lib.hid (h.on hX)
  have HW := Lib.hid hW
  have HL := Lib.hid (hl.on hX)
  have D := Lib.hid hd
  have OK := Lib.hid hok
  clear h hl hX hW hs hd hok b0 b1
  by_cases hbig : 65536 < l.length
  · have i1 : (l.length : Int) > 65536 := by omega
    have E := Lib.hid (show savedT d l = (0, 4) from if_pos hbig)
    go_enter Tryz.func34, Tryz.ntmps34
    go_wp2_with fail
    rw [HW.out]
    refine bodyPost_ret (v := .tuple #[.int .i64 0, .int .i64 4]) (by simp [results, Tryz.f34, go_sem]) rfl ?_
    exact ⟨by rw [E.out], X.out⟩
  have i1 : ¬ (l.length : Int) > 65536 := by omega
  have E := Lib.hid (show savedT d l = savedGo d 0 l from if_neg hbig)
  clear hbig
  go_enter Tryz.func34, Tryz.ntmps34
  go_wp2_with fail
  rw [HW.out]
  go_loopw [6, 7] (fun vn vk wr => ∃ (n : Int) (k : Nat), vn = .int .i64 n ∧ vk = .int .i64 k ∧ k ≤ l.length ∧ 0 ≤ n ∧ n ≤ 547608330240 * (k : Int) ∧ savedGo d n (l.drop k) = savedGo d 0 l ∧ Ext (fun _ => False) W wr) (fun _ vk _ => l.length - (intOf vk).toNat)
  case atStart => exact ⟨0, 0, rfl, rfl, Nat.zero_le _, Int.le_refl _, by omega, rfl, Ext.refl _ _⟩
  case round =>
    obtain ⟨n, k, rfl, rfl, hk, hn0, hn1, hs, hx⟩ := hrel
    have HS := Lib.hid hs
    have HX := Lib.hid hx
    clear hs
    by_cases hlt : k < l.length
    · have i2 : (k : Int) < (l.length : Int) := by omega
      obtain ⟨x, hget⟩ : ∃ x, l[k]? = some x := ⟨_, List.getElem?_eq_getElem hlt⟩
      obtain ⟨b, o, rfl, hb, c0, c1⟩ := cellR (HL.out.on hx) hget
      have hdrop : l.drop k = x :: l.drop (k + 1) := by
        have e1 := List.getElem_cons_drop hlt
        rw [← e1]
        congr 1
        rw [List.getElem?_eq_getElem hlt] at hget
        exact Option.some.inj hget
      have HS1 := HS.out
      rw [hdrop] at HS1
      have wbl := wb_le D.out x.id
      have hws : ((wordOf d.ws x.id).1).size = (wb d x.id).length := (ba_size _).symm
      have hox := OK.out x (List.mem_of_getElem? hget)
      have WC0 : ∀ w', Ext (fun _ => False) wr w' → Calls Tryz.prog 55 #[.agg #[.slice L.p0 d.ws.length L.c0, .slice L.p1 d.ms.length L.c1, .slice L.p2 d.ls.length L.c2, .slice L.p3 d.ns.length L.c3, .slice L.p4 d.ss.length L.c4], .int .i64 x.id] w' fun e w'' => e = .returned (.tuple #[.string (wordOf d.ws x.id).1, .bool (okId d x.id)]) ∧ Ext (fun _ => False) wr w'' := fun w' e => by
        have := ref5word_any w' L d x.id (R.out.on (hx.trans e (fun _ _ h => h))) (wfI hox.1) (by have := D.out.len; have := D.out.few; omega)
        rw [word_ok D.out] at this
        exact this.mono fun e' w'' ⟨h1, h2⟩ => ⟨h1, e.trans h2 (fun _ _ h => h)⟩
      obtain ⟨wx, hwx⟩ : ∃ s, (wordOf d.ws x.id).1 = s := ⟨_, rfl⟩
      rw [hwx] at WC0 hws
      obtain ⟨xi, xn⟩ := x
      simp only at c0 c1 WC0 hws HS1 wbl
      obtain ⟨ok, hok⟩ : ∃ ok, okId d xi = ok := ⟨_, rfl⟩
      rw [hok] at WC0
      have OKK := Lib.hid hok
      have WC := Lib.hid WC0
      have HS2 := Lib.hid HS1
      have WS := Lib.hid hws
      have WP := Lib.hid (show ok = true → 0 < (wb d xi).length from fun h => wb_pos D.out (by rw [OKK.out]; exact h))
      have C1 := Lib.hid (And.intro hb c1)
      have CE := Lib.hid (show ∀ w', Ext (fun _ => False) wr w' → (w'.cell? ⟨w.heap.size, 0, none⟩ = some (.slice L.p0 d.ws.length L.c0) ∧ w'.cell? ⟨w.heap.size, 1, none⟩ = some (.slice L.p1 d.ms.length L.c1) ∧ w'.cell? ⟨w.heap.size, 2, none⟩ = some (.slice L.p2 d.ls.length L.c2) ∧ w'.cell? ⟨w.heap.size, 3, none⟩ = some (.slice L.p3 d.ns.length L.c3) ∧ w'.cell? ⟨w.heap.size, 4, none⟩ = some (.slice L.p4 d.ss.length L.c4) ∧ w'.cell? ⟨b, o + k * 2, none⟩ = some (.int .i64 xi)) ∧ Ext (fun _ => False) wr w' from fun w' e =>
        have bb := (HX.out.trans e (fun _ _ h => h)).obj B5.out (fun h => h)
        ⟨⟨blk_cell bb 0, blk_cell bb 1, blk_cell bb 2, blk_cell bb 3, blk_cell bb 4, (e.cell (p := ⟨b, _, none⟩) hb (fun h => h)).trans c0⟩, e⟩)
      have D0 := Lib.hid (show Ext (fun _ => False) wr wr.drew from Ext.drew (Ext.refl _ _))
      clear hget hdrop HS1 hwx hok hx hws WC0 hox c0 c1 hb
      go_wp2_with fail
      go_region_held3 (fun w' => (w'.cell? ⟨w.heap.size, 0, none⟩ = some (.slice L.p0 d.ws.length L.c0) ∧ w'.cell? ⟨w.heap.size, 1, none⟩ = some (.slice L.p1 d.ms.length L.c1) ∧ w'.cell? ⟨w.heap.size, 2, none⟩ = some (.slice L.p2 d.ls.length L.c2) ∧ w'.cell? ⟨w.heap.size, 3, none⟩ = some (.slice L.p3 d.ns.length L.c3) ∧ w'.cell? ⟨w.heap.size, 4, none⟩ = some (.slice L.p4 d.ss.length L.c4) ∧ w'.cell? ⟨b, o + k * 2, none⟩ = some (.int .i64 xi)) ∧ Ext (fun _ => False) wr w')
        (first | exact CE.out _ D0.out | exact CE.out _ E6.out)
        (first
          | (go_at_call 55; (with_reducible refine (WC.out _ ?_).mono ?_); (exact D0.out); rintro e W5 ⟨rfl, x6⟩; have E6 := Lib.hid x6; clear x6))
      have X2 := Lib.hid (HX.out.trans E6.out (fun _ _ h => h))
      have d1 := (E6.out.cell (p := ⟨b, o + k * 2 + 1, none⟩) C1.out.1 (fun h => h)).trans C1.out.2
      cases ok with
      | false =>
        have RR := Lib.hid (show savedT d l = (0, 24) from by rw [E.out, ← HS2.out]; unfold savedGo; rw [if_pos OKK.out])
        go_wp2_with fail
        refine bodyPost_ret (v := .tuple #[.int .i64 0, .int .i64 24]) (by simp [results, Tryz.f34, go_sem]) rfl ?_
        exact ⟨by rw [RR.out], X.out.trans X2.out (fun _ _ h => h)⟩
      | true =>
        have NF := Lib.hid (show ¬ okId d xi = false from by rw [OKK.out]; decide)
        by_cases hneg : xn < 0
        · have RR := Lib.hid (show savedT d l = (0, 1) from by rw [E.out, ← HS2.out]; unfold savedGo; rw [if_neg NF.out, if_pos (.inl hneg)])
          go_wp2_with fail
          refine bodyPost_ret (v := .tuple #[.int .i64 0, .int .i64 1]) (by simp [results, Tryz.f34, go_sem]) rfl ?_
          exact ⟨by rw [RR.out], X.out.trans X2.out (fun _ _ h => h)⟩
        by_cases hmany : 2147483648 < xn
        · have RR := Lib.hid (show savedT d l = (0, 1) from by rw [E.out, ← HS2.out]; unfold savedGo; rw [if_neg NF.out, if_pos (.inr hmany)])
          have i4 : xn > 2147483648 := hmany
          go_wp2_with fail
          refine bodyPost_ret (v := .tuple #[.int .i64 0, .int .i64 1]) (by simp [results, Tryz.f34, go_sem]) rfl ?_
          exact ⟨by rw [RR.out], X.out.trans X2.out (fun _ _ h => h)⟩
        have i4 : ¬ xn > 2147483648 := hmany
        have RR := Lib.hid (show savedGo d (n + xn * (((wb d xi).length : Int) - 1)) (l.drop (k + 1)) = savedGo d 0 l from by rw [← HS2.out]; conv => rhs; unfold savedGo; rw [if_neg NF.out, if_neg (show ¬ (xn < 0 ∨ 2147483648 < xn) by omega)])
        have wp := WP.out rfl
        rw [← WS.out] at RR wp wbl
        obtain ⟨s1, hs1⟩ : ∃ s1, wx.size = s1 + 1 := ⟨wx.size - 1, by omega⟩
        have e1 : (wx.size : Int) - 1 = (s1 : Int) := by omega
        have s2 : s1 ≤ 255 := by omega
        rw [e1] at RR
        obtain ⟨pr, hpr⟩ : ∃ pr, xn * (s1 : Int) = pr := ⟨_, rfl⟩
        have p0 : 0 ≤ pr := by rw [← hpr]; exact Int.mul_nonneg (by omega) (by omega)
        have p1 : pr ≤ 547608330240 := by
          rw [← hpr]
          have h1 : xn * (s1 : Int) ≤ 2147483648 * (s1 : Int) := Int.mul_le_mul_of_nonneg_right (by omega) (by omega)
          omega
        rw [hpr] at RR
        clear hs1 wp wbl
        go_wp2_with fail
        go_roundw
        case rel => exact ⟨n + pr, k + 1, rfl, by go_num, hlt, by omega, by omega, RR.out, X2.out⟩
        case measure => simp [intOf]; omega
    · obtain rfl : k = l.length := by omega
      have i2 : ¬ ((l.length : Int) < (l.length : Int)) := by omega
      have RR := Lib.hid (show savedT d l = (n, 0) from by rw [E.out, ← HS.out, List.drop_length]; rfl)
      clear hx
      go_wp2_with fail
      refine bodyPost_ret (v := .tuple #[.int .i64 n, .int .i64 0]) (by simp [results, Tryz.f34, go_sem]) rfl ?_
      exact ⟨by rw [RR.out], X.out.trans HX.out (fun _ _ h => h)⟩
end Go.Proofs.YtigpaaelggnffaaGreatDoor.Ty
