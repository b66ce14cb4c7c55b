/- tally.Count: counting the ids of texts. -/
import Derived.Test.YtigpaaelggnffaaGreatDoorTallyOrder
import Derived.Test.YtigpaaelggnffaaGreatDoorMapKit3
import Derived.Test.YtigpaaelggnffaaGreatDoorWithin1
import Derived.Test.YtigpaaelggnffaaGreatDoorHouseE
namespace Go.Proofs.YtigpaaelggnffaaGreatDoor.Ty
open Go.RowKit Go.Proofs.YtigpaaelggnffaaGreatDoor.Lib Go.Proofs.YtigpaaelggnffaaGreatDoor.Sl Go.Proofs.YtigpaaelggnffaaGreatDoor.Bpe Go.Proofs.YtigpaaelggnffaaGreatDoor.Cut
set_option linter.unusedVariables false
set_option linter.unusedSimpArgs false

/-! ### one id more in the map -/
def entsR (R : List TRow) : List (Value × Value) := R.map fun r => (.int .i64 r.id, .int .i64 r.n)
theorem nodup_inj {α : Type} {l : List α} (h : l.Nodup) {i j : Nat} (hi : i < l.length) (hj : j < l.length) (e : l[i] = l[j]) : i = j := by
  have := List.pairwise_iff_getElem.1 h
  rcases Nat.lt_trichotomy i j with h1 | h1 | h1
  · exact absurd e (this i j hi hj h1)
  · exact h1
  · exact absurd e.symm (this j i hj hi h1)
theorem bump_set {x : Int} : ∀ {R : List TRow} {i : Nat} {q : TRow}, (R.map (·.id)).Nodup → R[i]? = some q → q.id = x → bump R x = R.set i ⟨x, q.n + 1⟩
  | [], _, _, _, h, _ => by cases h
  | r :: t, 0, q, hn, h, hq => by
    obtain rfl : r = q := by simpa using h
    unfold bump
    rw [if_pos hq, hq]
    rfl
  | r :: t, i + 1, q, hn, h, hq => by
    rw [List.map_cons, List.nodup_cons] at hn
    have h2 : t[i]? = some q := by simpa using h
    have hne : ¬ r.id = x := fun e => hn.1 (by rw [e, ← hq]; exact List.mem_map.2 ⟨q, List.mem_of_getElem? h2, rfl⟩)
    unfold bump
    rw [if_neg hne, bump_set hn.2 h2 hq]
    rfl
theorem bump_new {x : Int} : ∀ {R : List TRow}, x ∉ R.map (·.id) → bump R x = R ++ [⟨x, 1⟩]
  | [], _ => rfl
  | r :: t, h => by
    simp only [List.map_cons, List.mem_cons, not_or] at h
    unfold bump
    rw [if_neg (fun e => h.1 e.symm), bump_new h.2]
    rfl
theorem stays_int (x : Int) (hx : inI x) (w : World) : (Instr.keyThatStays (.int .i64 x) (.int .i64 x)).run Tryz.prog w = .ok (.int .i64 x) w :=
  (Maps.int_keyed (P := Tryz.prog) Tryz.underlying3).stays w (l := .int .i64 x) (by
    unfold inI at hx
    simp [keyOf, Tryz.underlying3, mapKey, Lit.wf, IntKind.min, IntKind.max, IntKind.signed, IntKind.bits]
    omega)
theorem bump_step {w : World} {b : Nat} {R : List TRow} {x : Int} (h : MapS w b (entsR R)) (hn : (R.map (·.id)).Nodup) (hok : ∀ r ∈ R, inI r.id) (hx : inI x) :
    ∃ v w', (Instr.lookup 76 (.map (some b)) (.int .i64 x) false).run Tryz.prog w = .ok (.int .i64 v) w ∧ (Instr.mapUpdate 76 (.map (some b)) (.int .i64 x) (.int .i64 (v + 1))).run Tryz.prog w = .ok () w' ∧
      Ext (fun k => k = b) w w' ∧ MapS w' b (entsR (bump R x)) ∧ (v = 0 ∨ ∃ r ∈ R, r.n = v) := by
  have hl : ∀ p ∈ entsR R, ∃ n : Int, inI n ∧ p.1 = .int .i64 n := fun p hp => by
    obtain ⟨r, hr, rfl⟩ := List.mem_map.1 hp
    exact ⟨r.id, hok r hr, rfl⟩
  have uniq : ∀ {r q : TRow}, r ∈ R → q ∈ R → r.id = q.id → r = q := fun {r q} hr hq he => by
    obtain ⟨i, hi⟩ := List.mem_iff_getElem?.1 hr
    obtain ⟨j, hj⟩ := List.mem_iff_getElem?.1 hq
    have h1 : (R.map (·.id))[i]? = some r.id := by rw [List.getElem?_map, hi]; rfl
    have h2 : (R.map (·.id))[j]? = some q.id := by rw [List.getElem?_map, hj]; rfl
    obtain ⟨a1, a2⟩ := List.getElem?_eq_some_iff.1 h1
    obtain ⟨b1, b2⟩ := List.getElem?_eq_some_iff.1 h2
    have : i = j := nodup_inj hn a1 b1 (by rw [a2, b2, he])
    subst this
    rw [hi] at hj
    exact Option.some.inj hj
  rcases run_look1 (P := Tryz.prog) (w := w) Tryz.underlying76 intFit h.at hl (.int .i64 x) (.int .i64 0) ⟨x, hx, rfl⟩ (by kernel_rfl) with ⟨v, hv, hr⟩ | ⟨hne, hr⟩
  · obtain ⟨r, hrR, he⟩ := List.mem_map.1 hv
    simp only [Prod.mk.injEq, Value.int.injEq, true_and] at he
    obtain ⟨he1, rfl⟩ := he
    obtain ⟨w', hp, hx2, hc⟩ := run_putS (P := Tryz.prog) (w := w) Tryz.underlying76 intFit h hl (.int .i64 x) (.int .i64 (r.n + 1)) ⟨x, hx, rfl⟩ (fun w => stays_int x hx w)
    refine ⟨r.n, w', hr, hp, hx2, ?_, .inr ⟨r, hrR, rfl⟩⟩
    rcases hc with ⟨i, u, hi, hm⟩ | ⟨hn2, _⟩
    · unfold entsR at hi
      rw [List.getElem?_map, Option.map_eq_some_iff] at hi
      obtain ⟨q, hq, he2⟩ := hi
      simp only [Prod.mk.injEq, Value.int.injEq, true_and] at he2
      obtain rfl : q = r := uniq (List.mem_of_getElem? hq) hrR (he2.1.trans he1.symm)
      rw [bump_set hn hq he1]
      unfold entsR
      rw [List.map_set]
      exact hm
    · exact absurd (by rw [he1]) (hn2 _ (List.mem_map.2 ⟨r, hrR, rfl⟩))
  · obtain ⟨w', hp, hx2, hc⟩ := run_putS (P := Tryz.prog) (w := w) Tryz.underlying76 intFit h hl (.int .i64 x) (.int .i64 (0 + 1)) ⟨x, hx, rfl⟩ (fun w => stays_int x hx w)
    refine ⟨0, w', hr, hp, hx2, ?_, .inl rfl⟩
    rcases hc with ⟨i, u, hi, hm⟩ | ⟨hn2, hm⟩
    · exact absurd rfl (hne _ (List.mem_of_getElem? hi))
    · rw [bump_new (fun hm => by
        obtain ⟨r, hr, e⟩ := List.mem_map.1 hm
        exact hn2 _ (List.mem_map.2 ⟨r, hr, rfl⟩) (by rw [e]))]
      unfold entsR
      rw [List.map_append]
      exact hm
/-! ### what is refused -/
set_option maxRecDepth 100000 in
theorem wrong_bad (pm : Option Addr) (most : Int) (n : Nat) (h : pm = none ∨ most < 1 ∨ 65536 < most) (w : World) :
    Calls Tryz.prog 56 #[.pointer pm, .int .i64 most, .int .i64 n] w fun e w' => e = .returned (.int .i64 1) ∧ w = w' := by
  by_cases hp : pm = none
  · subst hp
    have hq : ∀ W, (binOp .eql 27 (.pointer none) (.pointer none)).run Tryz.prog W = .ok (.bool true) W := fun W => by kernel_rfl
    go_enter Tryz.func56, Tryz.ntmps56
    go_wp2_with fail
    go_ret
    exact ⟨rfl, rfl⟩
  · obtain ⟨ad, rfl⟩ : ∃ ad, pm = some ad := by cases pm with | none => exact absurd rfl hp | some a => exact ⟨a, rfl⟩
    have hq : ∀ W, (binOp .eql 27 (.pointer (some ad)) (.pointer none)).run Tryz.prog W = .ok (.bool false) W := fun W => by kernel_rfl
    by_cases h1 : most < 1
    · go_enter Tryz.func56, Tryz.ntmps56
      go_wp2_with fail
      go_ret
      exact ⟨rfl, rfl⟩
    · have h2 : most > 65536 := by rcases h with h | h | h <;> first | exact absurd h hp | omega
      go_enter Tryz.func56, Tryz.ntmps56
      go_wp2_with fail
      go_ret
      exact ⟨rfl, rfl⟩
set_option maxRecDepth 100000 in
set_option maxHeartbeats 2000000 in
theorem encode_bad (w : World) (pm : Option Addr) (most : Int) (s : ByteArray) (h : pm = none ∨ most < 1 ∨ 65536 < most) :
    Calls Tryz.prog 37 #[.pointer pm, .int .i64 most, .string s] w fun e w' => e = .returned (.tuple #[.slice none 0 0, .int .i64 0, .int .i64 1]) ∧ Ext (fun _ => False) w w' := by
  refine (callsIn_wide (n := 3)).1 ?_
  refine callsIn_of_wp_marks Tryz.func37 rfl trivial ?_ rfl
  simp only [Tryz.ntmps37, List.size_toArray, List.length_cons, List.length_nil, Nat.reduceAdd, Nat.reduceSub, Array.replicate_succ, Array.replicate_zero, List.push_toArray, List.append_toArray, List.nil_append, List.cons_append]
  gi_wp2
  refine ⟨trivial, (callsIn_wide.2 (wrong_bad pm most s.size h _)).mono ?_⟩
  rintro e w' ⟨rfl, rfl⟩
  gi_wp2
  refine ⟨_, by simp [results, Tryz.f37, go_sem], rfl, ?_⟩
  exact ((((((Ext.refl (fun _ => False) w).alloc _).alloc _).alloc _).alloc _).alloc _).alloc _
end Go.Proofs.YtigpaaelggnffaaGreatDoor.Ty
