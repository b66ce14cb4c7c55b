/- tally.Unused. -/
import Derived.Test.YtigpaaelggnffaaGreatDoorTallyKnown
namespace Go.Proofs.YtigpaaelggnffaaGreatDoor.Ty
open Go.RowKit Go.Proofs.YtigpaaelggnffaaGreatDoor.Lib Go.Proofs.YtigpaaelggnffaaGreatDoor.Sl Go.Proofs.YtigpaaelggnffaaGreatDoor.Bpe
set_option linter.unusedVariables false
set_option linter.unusedSimpArgs false

/-- What a map of rows holds at an id; 0 where there is none. -/
def valR : List TRow → Int → Int
  | [], _ => 0
  | r :: t, x => if r.id = x then r.n else valR t x
/-- A row laid at its id. -/
def setR : List TRow → Int → Int → List TRow
  | [], x, v => [⟨x, v⟩]
  | r :: t, x, v => if r.id = x then ⟨x, v⟩ :: t else r :: setR t x v
theorem setR_set {x v : Int} : ∀ {R : List TRow} {i : Nat} {q : TRow}, (R.map (·.id)).Nodup → R[i]? = some q → q.id = x → setR R x v = R.set i ⟨x, v⟩
  | [], _, _, _, h, _ => by cases h
  | r :: t, 0, q, hn, h, hq => by
    obtain rfl : r = q := by simpa using h
    unfold setR
    rw [if_pos hq]
    rfl
  | r :: t, i + 1, q, hn, h, hq => by
    rw [List.map_cons, List.nodup_cons] at hn
    have h2 : t[i]? = some q := by simpa using h
    have hne : ¬ r.id = x := fun e => hn.1 (by rw [e, ← hq]; exact List.mem_map.2 ⟨q, List.mem_of_getElem? h2, rfl⟩)
    unfold setR
    rw [if_neg hne, setR_set hn.2 h2 hq]
    rfl
theorem setR_new {x v : Int} : ∀ {R : List TRow}, x ∉ R.map (·.id) → setR R x v = R ++ [⟨x, v⟩]
  | [], _ => rfl
  | r :: t, h => by
    simp only [List.map_cons, List.mem_cons, not_or] at h
    unfold setR
    rw [if_neg (fun e => h.1 e.symm), setR_new h.2]
    rfl
theorem setR_ids (x v : Int) : ∀ R : List TRow, (setR R x v).map (·.id) = if x ∈ R.map (·.id) then R.map (·.id) else R.map (·.id) ++ [x]
  | [] => by simp [setR]
  | r :: t => by
    have := setR_ids x v t
    unfold setR
    by_cases h : r.id = x
    · rw [if_pos h]; simp [h]
    · rw [if_neg h, List.map_cons, this, List.map_cons]
      by_cases h2 : x ∈ t.map (·.id)
      · rw [if_pos h2, if_pos (List.mem_cons_of_mem _ h2)]
      · rw [if_neg h2, if_neg (by simp only [List.mem_cons, not_or]; exact ⟨fun e => h e.symm, h2⟩)]; rfl
theorem setR_nodup {R : List TRow} (h : (R.map (·.id)).Nodup) (x v : Int) : ((setR R x v).map (·.id)).Nodup := by
  rw [setR_ids]
  split
  · exact h
  · rename_i hx
    rw [List.nodup_append]
    exact ⟨h, by simp, fun a ha b hb => by simp only [List.mem_singleton] at hb; rw [hb]; exact fun e => hx (e ▸ ha)⟩
theorem valR_set (x v : Int) : ∀ (R : List TRow) (y : Int), valR (setR R x v) y = if y = x then v else valR R y
  | [], y => by
    unfold setR valR
    by_cases h : y = x
    · rw [if_pos h.symm, if_pos h]
    · rw [if_neg (fun e => h e.symm), if_neg h]; rfl
  | r :: t, y => by
    have := valR_set x v t y
    unfold setR
    by_cases h : r.id = x
    · rw [if_pos h]
      unfold valR
      by_cases h2 : y = x
      · rw [if_pos h2.symm, if_pos h2]
      · rw [if_neg (fun e => h2 e.symm), if_neg h2, if_neg (by rw [h]; exact fun e => h2 e.symm)]
    · rw [if_neg h]
      unfold valR
      rw [this]
      by_cases h2 : y = x
      · rw [if_pos h2, if_pos h2, if_neg (by rw [h2]; exact h)]
      · rw [if_neg h2, if_neg h2]
theorem valR_mem {R : List TRow} (hn : (R.map (·.id)).Nodup) {r : TRow} (hr : r ∈ R) : valR R r.id = r.n := by
  induction R with
  | nil => cases hr
  | cons q t ih =>
    rw [List.map_cons, List.nodup_cons] at hn
    unfold valR
    rcases List.mem_cons.1 hr with rfl | h
    · rw [if_pos rfl]
    · rw [if_neg (fun e => hn.1 (by rw [e]; exact List.mem_map.2 ⟨r, h, rfl⟩)), ih hn.2 h]
theorem valR_none : ∀ {R : List TRow} {x : Int}, x ∉ R.map (·.id) → valR R x = 0
  | [], _, _ => rfl
  | r :: t, x, h => by
    simp only [List.map_cons, List.mem_cons, not_or] at h
    unfold valR
    rw [if_neg (fun e => h.1 e.symm), valR_none h.2]
theorem ents_ok {R : List TRow} (hok : ∀ r ∈ R, inI r.id) : ∀ p ∈ entsR R, ∃ n : Int, inI n ∧ p.1 = .int .i64 n := fun p hp => by
  obtain ⟨r, hr, rfl⟩ := List.mem_map.1 hp
  exact ⟨r.id, hok r hr, rfl⟩
theorem look_val {w : World} {b : Nat} {R : List TRow} {x : Int} (h : MapS w b (entsR R)) (hn : (R.map (·.id)).Nodup) (hok : ∀ r ∈ R, inI r.id) (hx : inI x) :
    (Instr.lookup 76 (.map (some b)) (.int .i64 x) false).run Tryz.prog w = .ok (.int .i64 (valR R x)) w := by
  rcases run_look1 (P := Tryz.prog) (w := w) Tryz.underlying76 intFit h.at (ents_ok hok) (.int .i64 x) (.int .i64 0) ⟨x, hx, rfl⟩ (by kernel_rfl) with ⟨v, hv, hr⟩ | ⟨hne, hr⟩
  · obtain ⟨r, hrR, he⟩ := List.mem_map.1 hv
    simp only [Prod.mk.injEq, Value.int.injEq, true_and] at he
    obtain ⟨rfl, rfl⟩ := he
    rw [hr, valR_mem hn hrR]
  · rw [hr, valR_none (fun hm => by
      obtain ⟨r, hr, e⟩ := List.mem_map.1 hm
      exact hne _ (List.mem_map.2 ⟨r, hr, rfl⟩) (by rw [e]))]
theorem put_val {w : World} {b : Nat} {R : List TRow} {x : Int} (v : Int) (h : MapS w b (entsR R)) (hn : (R.map (·.id)).Nodup) (hok : ∀ r ∈ R, inI r.id) (hx : inI x) :
    ∃ w', (Instr.mapUpdate 76 (.map (some b)) (.int .i64 x) (.int .i64 v)).run Tryz.prog w = .ok () w' ∧ Ext (fun k => k = b) w w' ∧ MapS w' b (entsR (setR R x v)) := by
  obtain ⟨w', hp, hx2, hc⟩ := run_putS (P := Tryz.prog) (w := w) Tryz.underlying76 intFit h (ents_ok hok) (.int .i64 x) (.int .i64 v) ⟨x, hx, rfl⟩ (fun w => stays_int x hx w)
  refine ⟨w', hp, hx2, ?_⟩
  rcases hc with ⟨i, u, hi, hm⟩ | ⟨hn2, hm⟩
  · unfold entsR at hi
    rw [List.getElem?_map, Option.map_eq_some_iff] at hi
    obtain ⟨q, hq, he2⟩ := hi
    simp only [Prod.mk.injEq, Value.int.injEq, true_and] at he2
    rw [setR_set hn hq he2.1]
    unfold entsR
    rw [List.map_set]
    exact hm
  · rw [setR_new (fun hm => by
      obtain ⟨r, hr, e⟩ := List.mem_map.1 hm
      exact hn2 _ (List.mem_map.2 ⟨r, hr, rfl⟩) (by rw [e]))]
    unfold entsR
    rw [List.map_append]
    exact hm
/-- Does a row tell that the id stands there? -/
def usedB (l : List TRow) (x : Int) : Bool := l.any fun r => decide (r.id = x) && decide (0 < r.n)
theorem usedB_snoc (l : List TRow) (r : TRow) (x : Int) : usedB (l ++ [r]) x = (usedB l x || (decide (r.id = x) && decide (0 < r.n))) := by simp [usedB]
/-- The ids below n that stand in no row. -/
def unusedT (l : List TRow) : Nat → List Int
  | 0 => []
  | n + 1 => unusedT l n ++ (if usedB l (n : Int) = true then [] else [(n : Int)])
theorem unusedT_length (l : List TRow) : ∀ n, (unusedT l n).length ≤ n
  | 0 => Nat.le_refl _
  | n + 1 => by
    have := unusedT_length l n
    unfold unusedT
    rw [List.length_append]
    split <;> simp <;> omega
/-- What the map tells of the rows so far. -/
structure UsSt (l : List TRow) (k : Nat) (R : List TRow) : Prop where
  nodup : (R.map (·.id)).Nodup
  ok : ∀ r ∈ R, inI r.id ∧ inI r.n
  used : ∀ x, 1 ≤ valR R x ↔ usedB (l.take k) x = true
theorem setR_ok {R : List TRow} (h : ∀ r ∈ R, inI r.id ∧ inI r.n) {x v : Int} (hx : inI x) (hv : inI v) : ∀ r ∈ setR R x v, inI r.id ∧ inI r.n := by
  induction R with
  | nil => intro r hr; simp [setR] at hr; subst hr; exact ⟨hx, hv⟩
  | cons q t ih =>
    intro r hr
    unfold setR at hr
    by_cases e : q.id = x
    · rw [if_pos e] at hr
      rcases List.mem_cons.1 hr with rfl | hr
      · exact ⟨hx, hv⟩
      · exact h r (.tail _ hr)
    · rw [if_neg e] at hr
      rcases List.mem_cons.1 hr with rfl | hr
      · exact h _ (.head _)
      · exact ih (fun r hr => h r (.tail _ hr)) r hr
theorem UsSt.step {l : List TRow} {k : Nat} {R : List TRow} (h : UsSt l k R) {x : TRow} (hx : l[k]? = some x) (hi : inI x.id ∧ inI x.n) (v : Int) (hv : v = if valR R x.id < x.n then x.n else valR R x.id) (hvi : inI v) : UsSt l (k + 1) (setR R x.id v) := by
  refine ⟨setR_nodup h.nodup _ _, setR_ok h.ok hi.1 hvi, fun y => ?_⟩
  have e : l.take (k + 1) = l.take k ++ [x] := by rw [List.take_add_one, hx]; rfl
  rw [e, usedB_snoc, valR_set, Bool.or_eq_true, ← h.used y]
  by_cases hy : y = x.id
  · subst hy
    rw [if_pos rfl, hv]
    simp
    split <;> omega
  · rw [if_neg hy]
    simp [Ne.symm hy]
structure UsEnd (w : World) (out : List Int) (e : Ending) (w' : World) : Prop where
  is : ∃ p c, e = .returned (.slice p out.length c) ∧ Arr w' 3 1 p out.length c (ints out) ∧ Ext (fun _ => False) w w' ∧ (∀ j, blkOf p = some j → w.heap.size ≤ j) ∧ (out.length = 0 → p = none ∧ c = 0)
theorem mx_in {x y : Int} (hx : inI x) (hy : inI y) : inI (mx x y) := by unfold mx; split <;> assumption
theorem unused_in (l : List TRow) : ∀ n, n ≤ 1048576 → ∀ x ∈ unusedT l n, inI x
  | 0, _, x, h => by cases h
  | n + 1, hn, x, h => by
    unfold unusedT at h
    rcases List.mem_append.1 h with h | h
    · exact unused_in l n (by omega) x h
    · split at h
      · cases h
      · simp only [List.mem_singleton] at h; subst h; exact ⟨by omega, by omega⟩
structure UnSt (w W : World) (mb : Nat) (R : List TRow) (out : List Int) (p : Option Addr) (c : Nat) : Prop where
  map : MapS W mb (entsR R)
  arr : Arr W 3 1 p out.length c (ints out)
  ext : Ext (fun _ => False) w W
  fr : ∀ j, blkOf p = some j → w.heap.size ≤ j ∧ j ≠ mb
  z : out.length = 0 → p = none ∧ c = 0
set_option maxRecDepth 100000 in
set_option maxHeartbeats 8000000 in
theorem unused_any {w : World} {m : Nat} {d : Dat} (hm : IsModel w m d) (hd : RightD d) (p : Option Addr) (c : Nat) (l : List TRow) (hl : Rd eTR w p l) (hn : l.length ≤ 281474976710656) (hok : ∀ r ∈ l, inI r.id ∧ inI r.n) :
    Calls Tryz.prog 28 #[.pointer (some ⟨m, 0, none⟩), .slice p l.length c] w fun e w' => UsEnd w (unusedT l (256 + d.ms.length)) e w' := by
  have hq : ∀ W, (binOp .eql 27 (.pointer (some ⟨m, 0, none⟩)) (.pointer none)).run Tryz.prog W = .ok (.bool false) W := fun W => by kernel_rfl
  have hsz : ∃ p c, ∀ W, Ext (fun _ => False) w W → W.cell? ⟨m, 0, none⟩ = some (.slice p d.ws.length c) := by
    obtain ⟨L, tp, mp, q0, q1, q2, d0, d1, d2, hM⟩ := hm
    exact ⟨L.p0, L.c0, fun W hx => (hM.on hx).blk.c0⟩
  obtain ⟨ps, cs, hsz⟩ := hsz
  have hlen := hd.len
  have hfew := hd.few
  have SZ := Lib.hid (fun W hx => show Calls Tryz.prog 39 #[.pointer (some ⟨m, 0, none⟩)] W fun e w' => e = .returned (.int .i64 (256 + (d.ms.length : Int))) ∧ W = w' from by
    have := size_any W m ps d.ws.length cs (hsz W hx) (by omega)
    rwa [hlen] at this)
  have HL := Lib.hid hl
  have OK := Lib.hid hok
  obtain ⟨N, hN⟩ : ∃ N, 256 + d.ms.length = N := ⟨_, rfl⟩
  have hNb : N ≤ 1048576 := by omega
  have hNi : (256 + (d.ms.length : Int)) = (N : Int) := by omega
  rw [hN]
  rw [hNi] at SZ
  clear hsz hlen hl hok hm hd hfew hN hNi
  have hmm := @run_makeMap Tryz.prog
  go_enter Tryz.func28, Tryz.ntmps28
  go_upto_region 4 with (fail)
  obtain ⟨mb, hmb⟩ : ∃ mb, w.heap.size = mb := ⟨_, rfl⟩
  obtain ⟨W2, hW2⟩ : ∃ W2, w.alloc (.map #[] 0) = W2 := ⟨_, rfl⟩
  have ST0 := Lib.hid (show Ext (fun _ => False) w W2 ∧ MapS W2 mb [] ∧ mb = w.heap.size from by rw [← hW2, ← hmb]; exact ⟨(Ext.refl _ _).alloc _, MapS.new w, rfl⟩)
  try rw [hW2]
  try rw [hmb]
  clear hW2 hmb hmm
  go_wp2_with fail
  go_loopw [15] (fun vk wr => ∃ (k : Nat) (R : List TRow), vk = .int .i64 k ∧ k ≤ l.length ∧ MapS wr mb (entsR R) ∧ UsSt l k R ∧ Ext (fun _ => False) w wr) (fun vk _ => l.length - (intOf vk).toNat)
  case atStart => exact ⟨0, [], rfl, Nat.zero_le _, ST0.out.2.1, ⟨by simp, (fun r hr => by cases hr), (fun x => by simp [valR, usedB])⟩, ST0.out.1⟩
  case round =>
    obtain ⟨k, R, rfl, hk, hmap, hus, hx⟩ := hrel
    have EX := Lib.hid hx
    have US := Lib.hid hus
    by_cases hlt : k < l.length
    · have i1 : (k : Int) < (l.length : Int) := by omega
      obtain ⟨x, hget⟩ : ∃ x, l[k]? = some x := ⟨_, List.getElem?_eq_getElem hlt⟩
      obtain ⟨b, o, rfl, hb, c0, c1⟩ := (HL.out.on hx).cellR hget
      have hox := OK.out x (List.mem_of_getElem? hget)
      have X1 := hx.alloc (.cells #[.int .i64 x.id, .int .i64 x.n] 45)
      have hm1 := hmap.ext ((Ext.refl (fun _ => False) wr).alloc (.cells #[.int .i64 x.id, .int .i64 x.n] 45)) (fun h => h)
      have hlook := look_val hm1 hus.nodup (fun r hr => (hus.ok r hr).1) hox.1
      obtain ⟨w4, hput, hx4, hm4⟩ := put_val (mx (valR R x.id) x.n) hm1 hus.nodup (fun r hr => (hus.ok r hr).1) hox.1
      have hval : inI (valR R x.id) := by
        by_cases hin : x.id ∈ R.map (·.id)
        · obtain ⟨r, hr, e⟩ := List.mem_map.1 hin
          rw [← e, valR_mem hus.nodup hr]
          exact (hus.ok r hr).2
        · rw [valR_none hin]; exact ⟨by decide, by decide⟩
      have U4 := Lib.hid (hus.step hget hox (mx (valR R x.id) x.n) rfl (mx_in hval hox.2))
      have M4 := Lib.hid hm4
      have X4 := Lib.hid (X1.trans hx4 (fun i hi e => by have := ST0.out.2.2; omega))
      obtain ⟨xi, xn⟩ := x
      simp only at c0 c1 hlook hput
      clear hget hox X1 hm1 hval hmap hus hx hx4 hm4
      go_wp2_with fail
      go_roundw
      case rel => exact ⟨k + 1, _, by go_num, hlt, M4.out, U4.out, X4.out⟩
      case measure => simp [intOf]; omega
    · obtain rfl : k = l.length := by omega
      have i1 : ¬ ((l.length : Int) < (l.length : Int)) := by omega
      have SZ2 := Lib.hid (SZ.out wr EX.out)
      have NE := Lib.hid (show w.heap.size = mb ∧ mb < wr.heap.size from ⟨ST0.out.2.2.symm, hmap.lt⟩)
      have S0 := Lib.hid (show UnSt w wr mb R (unusedT l 0) none 0 from ⟨hmap, arr_nil wr _ _, hx, (fun j hj => by cases hj), fun _ => ⟨rfl, rfl⟩⟩)
      have hused := hus.used
      rw [List.take_length] at hused
      have USED := Lib.hid hused
      clear hmap hus hx hused EX
      go_wp2_with fail
      refine SZ2.out.mono ?_
      rintro e w3 ⟨rfl, rfl⟩
      clear SZ SZ2
      go_wp2_with fail
      go_loopw [8, 32] (fun v vk wr3 => ∃ (k : Nat) (p1 : Option Addr) (c1 : Nat), v = .slice p1 (unusedT l k).length c1 ∧ vk = .int .i64 k ∧ k ≤ N ∧ UnSt w wr3 mb R (unusedT l k) p1 c1) (fun _ vk _ => N - (intOf vk).toNat)
      case atStart => exact ⟨0, none, 0, rfl, rfl, Nat.zero_le _, S0.out⟩
      case round =>
        obtain ⟨k, p1, c1, rfl, rfl, hk2, hst⟩ := hrel
        have ST := Lib.hid hst
        by_cases hlt2 : k < N
        · have i2 : (k : Int) < (N : Int) := by omega
          have hki : inI (k : Int) := ⟨by omega, by omega⟩
          have hlook := look_val hst.map US.out.nodup (fun r hr => (US.out.ok r hr).1) hki
          have hu := USED.out (k : Int)
          obtain ⟨vv, hvv⟩ : ∃ vv, valR R (k : Int) = vv := ⟨_, rfl⟩
          rw [hvv] at hlook hu
          by_cases hub : usedB l (k : Int) = true
          · have i3 : ¬ vv < 1 := by have := hu.2 hub; omega
            have E := Lib.hid (show unusedT l (k + 1) = unusedT l k from by show unusedT l k ++ _ = _; rw [if_pos hub, List.append_nil])
            clear hst hki hu hvv hub
            go_wp2_with fail
            go_roundw
            case rel => exact ⟨k + 1, p1, c1, by rw [E.out], by go_num, hlt2, by rw [E.out]; exact ST.out⟩
            case measure => simp [intOf]; omega
          · have i3 : vv < 1 := by
              have : ¬ 1 ≤ vv := fun h => hub (hu.1 h)
              omega
            have E := Lib.hid (show unusedT l (k + 1) = unusedT l k ++ [(k : Int)] from by show unusedT l k ++ _ = _; rw [if_neg hub])
            have A1 := Lib.hid hst.arr
            have ul := unusedT_length l k
            obtain ⟨n1, hn1⟩ : ∃ n1, (unusedT l k).length = n1 := ⟨_, rfl⟩
            rw [hn1] at A1 ul
            have N1 := Lib.hid hn1
            have fin : ∀ (p3 : Option Addr) (c3 : Nat) (w3 : World), Arr w3 3 1 p3 (n1 + 1) c3 (ints (unusedT l k) ++ [.int .i64 (k : Int)]) → Ext (fun j => blkOf p1 = some j) wr w3 → Moved wr p1 p3 → UnSt w w3 mb R (unusedT l (k + 1)) p3 c3 ∧ (unusedT l (k + 1)).length = n1 + 1 := fun p3 c3 w3 hA hx hm => by
              have el : (unusedT l (k + 1)).length = n1 + 1 := by rw [E.out, List.length_append, N1.out]; rfl
              refine ⟨⟨?_, by rw [el, E.out]; simpa [ints] using hA, ST.out.ext.trans hx (fun i hi e => by have := ST.out.fr i e; omega), fun j hj => ?_, fun h => by omega⟩, el⟩
              · exact ST.out.map.ext hx (fun h => by have := ST.out.fr mb h; omega)
              · rcases hm j hj with h | h
                · exact ST.out.fr j h
                · have := ST.out.ext.size; have := ST.out.map.lt; exact ⟨by omega, by omega⟩
            have FIN := Lib.hid fin
            clear hst hki hu hvv hub fin hn1
            rw [N1.out]
            go_wp2_with (at_builtin; refine arr_append1 rfl (.tmp 39) (.tmp 41) 62 3 1 8 (.int .i64 0) rfl Tryz.underlying62 infoI rfl (by decide) (by decide) p1 n1 c1 (ints (unusedT l k)) [.int .i64 k] rfl _ rfl (by simp) rfl (by simp [Value.oneCell']) A1.out (by omega) ?_; intro p3 c3 w3 hA3 hx3 hm3)
            have NX := Lib.hid (FIN.out p3 c3 w3 hA3 hx3 hm3)
            clear hA3 hx3 hm3
            go_roundw
            case rel => exact ⟨k + 1, p3, c3, by rw [NX.out.2], by go_num, hlt2, NX.out.1⟩
            case measure => simp [intOf]; omega
        · obtain rfl : k = N := by omega
          have i2 : ¬ ((k : Int) < (k : Int)) := by omega
          go_wp2_with fail
          go_ret
          exact ⟨p1, c1, rfl, ST.out.arr, ST.out.ext, fun j hj => (ST.out.fr j hj).1, ST.out.z⟩
end Go.Proofs.YtigpaaelggnffaaGreatDoor.Ty
