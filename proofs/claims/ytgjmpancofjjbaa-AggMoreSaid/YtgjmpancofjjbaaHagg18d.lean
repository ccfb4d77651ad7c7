/- Chapter 18, part 4: plain laws of statement AggMore. -/
import Derived.Laws.Rows
import Derived.Deep.MidRow
import Derived.Deep.WholeRow
import Derived.Deep.RegionHeld3
import Derived.Deep.RegionLaw
import Derived.Test.YtgjmpancofjjbaaHstep
import Derived.Test.YtgjmpancofjjbaaHmapint
import Derived.Test.YtgjmpancofjjbaaHnum
import Derived.Test.YtgjmpancofjjbaaHval
import Derived.Test.YtgjmpancofjjbaaHvalord
import Derived.Test.YtgjmpancofjjbaaHagg18
import Derived.Test.YtgjmpancofjjbaaHagg18p
import Derived.Test.YtgjmpancofjjbaaQx0
import Derived.Test.YtgjmpancofjjbaaQx4
import Derived.Test.YtgjmpancofjjbaaQx9
namespace Go.Proofs.Ytgjmpancofjjbaa.Q
open Go.RowKit Go.Proofs.YtgjmpancofjjbaaW.PrintWords Go.Proofs.YtgjmpancofjjbaaW.PrintLast Go.Proofs.YtgjmpancofjjbaaW.PrintMore
attribute [local go_sem] max2_int min2_int max_two min_two max_three min_three max_four min_four   -- for this text's walks alone
set_option linter.unusedVariables false
set_option linter.unusedSimpArgs false

-- SAYS Chapter 18, part 4: plain laws of statement AggMore.
-- FUNCS winnower/winnowerref06.Order
-- NEEDS winnowerref06_Order.f
-- IMPORT Derived.Laws.Rows
-- IMPORT Derived.Deep.MidRow
-- IMPORT Derived.Deep.WholeRow
-- IMPORT Derived.Deep.RegionHeld3
-- IMPORT Derived.Deep.RegionLaw
-- IMPORT Derived.Test.YtgjmpancofjjbaaHstep
-- IMPORT Derived.Test.YtgjmpancofjjbaaHmapint
-- IMPORT Derived.Test.YtgjmpancofjjbaaHnum
-- IMPORT Derived.Test.YtgjmpancofjjbaaHval
-- IMPORT Derived.Test.YtgjmpancofjjbaaHvalord
-- IMPORT Derived.Test.YtgjmpancofjjbaaHagg18
-- IMPORT Derived.Test.YtgjmpancofjjbaaHagg18p
open Go.Proofs.Ytgjmpancofjjbaa.Hstep Go.Proofs.Ytgjmpancofjjbaa.Hmapint Go.Proofs.Ytgjmpancofjjbaa.Hnum Go.Proofs.Ytgjmpancofjjbaa.Hval
attribute [local go_sem high] eqV_
set_option maxHeartbeats 8000000
set_option maxRecDepth 100000
theorem own_ne2 {fn gn : Int} (h1 : fn ≠ 2) (h2 : gn ≠ 2) (l : List S26) : ownS fn l = ownS gn l := by
  unfold ownS own1
  rw [decide_eq_true h1, decide_eq_true h2]
theorem own_kind {fn : Int} {l : List S26} {x : S26} (h : x ∈ ownS fn l) : x ∈ l ∧ mv x = true ∧ x.f0 ≠ 0 := by
  unfold ownS at h
  rw [List.mem_filter] at h
  obtain ⟨h1, h2⟩ := h
  unfold own1 at h2
  rw [Bool.and_eq_true, Bool.and_eq_true, decide_eq_true_eq] at h2
  exact ⟨h1, h2.1, h2.2.1⟩
theorem addV_grow (l : List S26) (v : S26) : l.length ≤ (addV l v).length := by
  unfold addV
  split
  · rw [List.length_append]; omega
  · omega
theorem foldV_len : ∀ (l acc : List S26), (l.foldl addV acc).length ≤ acc.length + l.length
  | [], acc => by simp
  | x :: t, acc => by
    have h1 := foldV_len t (addV acc x)
    have h2 := addV_len acc x
    rw [List.foldl_cons]
    simp only [List.length_cons]
    omega
theorem foldV_grow : ∀ (l acc : List S26), acc.length ≤ (l.foldl addV acc).length
  | [], acc => by simp
  | x :: t, acc => by
    have h1 := foldV_grow t (addV acc x)
    have h2 := addV_grow acc x
    rw [List.foldl_cons]
    omega
theorem addV_nil (x : S26) : addV [] x = [x] := rfl
theorem foldV_one (x : S26) (t : List S26) : 1 ≤ ((x :: t).foldl addV []).length := by
  rw [List.foldl_cons, addV_nil]
  exact foldV_grow t [x]
theorem addV_mem {l : List S26} {v : S26} (h : v ∈ l) : addV l v = l := by
  unfold addV
  cases hf : findV v l 0 with
  | none => exact absurd h (findV_none.1 hf)
  | some j => rfl
theorem mem_addV (l : List S26) (v : S26) : v ∈ addV l v := by
  unfold addV
  cases hf : findV v l 0 with
  | none => rw [if_pos (by rfl)]; exact List.mem_append_right _ (List.mem_cons_self ..)
  | some j =>
    rw [if_neg (by simp)]
    obtain ⟨_, h⟩ := findV_some hf
    exact List.mem_of_getElem? h
theorem sub_addV {l : List S26} {u : S26} (v : S26) (h : u ∈ l) : u ∈ addV l v := by
  unfold addV
  split
  · exact List.mem_append_left _ h
  · exact h
theorem three_two (p : S26 → Bool) (a b : S26) : (([a, b, a].filter p).foldl addV []).length ≤ 2 := by
  cases hp : p a with
  | false =>
    have := foldV_len ([a, b, a].filter p) []
    have hl : ([a, b, a].filter p).length ≤ 1 := by
      simp only [List.filter_cons, hp, List.filter_nil, Bool.false_eq_true, if_false]
      split <;> simp
    simp only [List.length_nil] at this
    omega
  | true =>
    cases hq : p b with
    | false =>
      have := foldV_len ([a, b, a].filter p) []
      have hl : ([a, b, a].filter p).length ≤ 2 := by
        simp [List.filter_cons, hp, hq]
      simp only [List.length_nil] at this
      omega
    | true =>
      have e : [a, b, a].filter p = [a, b, a] := by simp [List.filter_cons, hp, hq]
      rw [e, List.foldl_cons, List.foldl_cons, List.foldl_cons, List.foldl_nil, addV_nil]
      rw [addV_mem (sub_addV b (List.mem_cons_self ..))]
      exact addV_len [a] b
theorem pick_mem (fn : Int) : ∀ (t : List S26) (b : S26), t.foldl (pick fn) b = b ∨ t.foldl (pick fn) b ∈ t
  | [], b => .inl rfl
  | x :: t, b => by
    rw [List.foldl_cons]
    have hp : pick fn b x = x ∨ pick fn b x = b := by unfold pick; split <;> simp
    rcases pick_mem fn t (pick fn b x) with h | h
    · rw [h]
      rcases hp with hp | hp
      · rw [hp]; exact .inr (List.mem_cons_self ..)
      · rw [hp]; exact .inl rfl
    · exact .inr (List.mem_cons_of_mem _ h)
theorem best_mem (fn : Int) {l : List S26} (h : l ≠ []) : bestS fn l ∈ l := by
  cases l with
  | nil => exact absurd rfl h
  | cons x t =>
    rcases pick_mem fn t x with h | h
    · show t.foldl (pick fn) x ∈ _
      rw [h]; exact List.mem_cons_self ..
    · exact List.mem_cons_of_mem _ h
theorem told_1 {l : List S26} (hl : l.length ≤ 1000) : toldS 1 l = (num26 (ownS 1 l).length, 0) := by rw [toldS_own (by decide) (by decide) hl, if_pos rfl]
theorem told_2 {l : List S26} (hl : l.length ≤ 1000) : toldS 2 l = if (ownS 2 l).length = 0 then (z26, 0) else if inR (tsum ((ownS 2 l).map (·.f1))) then (num26 (tsum ((ownS 2 l).map (·.f1))), 0) else (z26, 10) := by rw [toldS_own (by decide) (by decide) hl, if_neg (by decide), if_pos rfl]
theorem told_3 {l : List S26} (hl : l.length ≤ 1000) : toldS 3 l = (bestS 3 (ownS 1 l), 0) := by rw [toldS_own (by decide) (by decide) hl, if_neg (by decide), if_neg (by decide), if_pos rfl, own_ne2 (gn := 1) (by decide) (by decide)]
theorem told_4 {l : List S26} (hl : l.length ≤ 1000) : toldS 4 l = (bestS 4 (ownS 1 l), 0) := by rw [toldS_own (by decide) (by decide) hl, if_neg (by decide), if_neg (by decide), if_neg (by decide), if_pos rfl, own_ne2 (gn := 1) (by decide) (by decide)]
theorem told_5 {l : List S26} (hl : l.length ≤ 1000) : toldS 5 l = (num26 ((ownS 1 l).foldl addV []).length, 0) := by rw [toldS_own (by decide) (by decide) hl, if_neg (by decide), if_neg (by decide), if_neg (by decide), if_neg (by decide), own_ne2 (gn := 1) (by decide) (by decide)]
theorem told_three (a b : S26) : ∃ d : Nat, toldS 5 [a, b, a] = (num26 d, 0) ∧ d ≤ 2 := by
  refine ⟨_, told_5 (by simp), ?_⟩
  exact three_two (own1 1) a b
theorem own2_app (l : List S26) (n : Int) : ownS 2 (l ++ [num26 n]) = ownS 2 l ++ [num26 n] := by
  unfold ownS
  rw [List.filter_append]
  congr 1
  have : own1 2 (num26 n) = true := by
    unfold own1 mv_ num26 V.may
    simp
  rw [List.filter_cons, if_pos this, List.filter_nil]
/-- One more number is one more of the sum. -/
theorem sum_more {l : List S26} (hl : l.length ≤ 999) (n : Int) {a b : S26} {y : Int} (ha : toldS 2 l = (a, 0)) (hb : toldS 2 (l ++ [num26 n]) = (b, y)) (hy : y = 0) : b.f0 = 1 ∧ b.f1 = a.f1 + n ∧ inR b.f1 := by
  subst hy
  rw [told_2 (by omega)] at ha
  rw [told_2 (by rw [List.length_append]; simp only [List.length_cons, List.length_nil]; omega), own2_app, if_neg (by simp), List.map_append, tsum_app] at hb
  have e : tsum (List.map (·.f1) [num26 n]) = n := by show n + 0 = n; omega
  rw [e] at hb
  have hs : a.f1 = tsum ((ownS 2 l).map (·.f1)) := by
    by_cases h0 : (ownS 2 l).length = 0
    · rw [if_pos h0] at ha
      obtain ⟨rfl, _⟩ := Prod.mk.inj ha
      rw [List.eq_nil_of_length_eq_zero h0]
      rfl
    · rw [if_neg h0] at ha
      by_cases hr : inR (tsum ((ownS 2 l).map (·.f1)))
      · rw [if_pos hr] at ha
        obtain ⟨rfl, _⟩ := Prod.mk.inj ha
        rfl
      · rw [if_neg hr] at ha
        exact absurd (Prod.mk.inj ha).2 (by decide)
  by_cases hr : inR (tsum ((ownS 2 l).map (·.f1)) + n)
  · rw [if_pos hr] at hb
    obtain ⟨rfl, _⟩ := Prod.mk.inj hb
    exact ⟨rfl, by rw [hs]; rfl, hr⟩
  · rw [if_neg hr] at hb
    exact absurd (Prod.mk.inj hb).2 (by decide)
theorem order_tell (x b : S26) (h : x.f2.size ≤ 9223372036854775807) : winnowerref06_Order.f x.f0 x.f1 x.f2 x.f3 b.f0 b.f1 b.f2 b.f3 = some (ov x b) := by
  unfold winnowerref06_Order.f
  rw [if_pos h]
  rfl
theorem z26_mv : mv z26 = true := by
  unfold mv toV z26
  exact V.may_null
theorem own_z (fn : Int) (l : List S26) : ownS fn (l ++ [z26]) = ownS fn l := by
  unfold ownS
  rw [List.filter_append]
  have : own1 fn z26 = false := by unfold own1 z26; simp
  rw [List.filter_cons, this, List.filter_nil]
  simp
theorem own_app (fn : Int) (l : List S26) (v : S26) : ownS fn (l ++ [v]) = if own1 fn v = true then ownS fn l ++ [v] else ownS fn l := by
  unfold ownS
  rw [List.filter_append, List.filter_cons, List.filter_nil]
  split
  · rfl
  · simp
/-- Values that are nothing change nothing. -/
theorem told_z {fn : Int} (h1 : 1 ≤ fn) (h2 : fn < 6) {l : List S26} (hl : l.length ≤ 999) : toldS fn (l ++ [z26]) = toldS fn l := by
  have hL : (l ++ [z26]).length ≤ 1000 := by rw [List.length_append]; simp only [List.length_cons, List.length_nil]; omega
  rw [toldS_own h1 h2 hL, toldS_own h1 h2 (by omega)]
  simp only [own_z]
theorem told_err {fn : Int} (h1 : 1 ≤ fn) (h2 : fn < 6) {l : List S26} (hl : l.length ≤ 1000) : (toldS fn l).2 = 0 ∨ (toldS fn l).2 = 10 := by
  rw [toldS_own h1 h2 hl]
  split
  · exact .inl rfl
  · split
    · split
      · exact .inl rfl
      · split
        · exact .inl rfl
        · exact .inr rfl
    · split
      · exact .inl rfl
      · split
        · exact .inl rfl
        · exact .inl rfl
theorem ord_num (a b : Int) : ov (num26 a) (num26 b) = if a < b then -1 else if a > b then 1 else 0 := by
  show V.ord _ _ = _
  unfold toV num26 V.ord
  simp only [if_true]
  rfl
theorem best_app (fn : Int) {l : List S26} (hl : l ≠ []) (v : S26) : bestS fn (l ++ [v]) = pick fn (bestS fn l) v := by
  cases l with
  | nil => exact absurd rfl hl
  | cons x t =>
    show (t ++ [v]).foldl (pick fn) x = _
    rw [List.foldl_append]
    rfl
theorem foldV_app (l : List S26) (v : S26) : (l ++ [v]).foldl addV [] = addV (l.foldl addV []) v := by rw [List.foldl_append]; rfl
/-- One more value: what it does. x: of the values ahead, z: with one more; the order of z and x. -/
theorem more_1 {l : List S26} (hl : l.length ≤ 999) (v : S26) (x z : S26) (hx : toldS 1 l = (x, 0)) (hz : toldS 1 (l ++ [v]) = (z, 0)) : 0 ≤ ov z x ∧ z.f1 - x.f1 ≤ 1 ∧ 0 ≤ z.f1 - x.f1 := by
  have hL : (l ++ [v]).length ≤ 1000 := by rw [List.length_append]; simp only [List.length_cons, List.length_nil]; omega
  rw [told_1 (by omega)] at hx
  rw [told_1 hL] at hz
  obtain ⟨rfl, _⟩ := Prod.mk.inj hx
  obtain ⟨rfl, _⟩ := Prod.mk.inj hz
  have hc : (ownS 1 (l ++ [v])).length = (ownS 1 l).length ∨ (ownS 1 (l ++ [v])).length = (ownS 1 l).length + 1 := by
    rw [own_app]
    split
    · right; rw [List.length_append]; rfl
    · exact .inl rfl
  rw [ord_num]
  unfold num26
  refine ⟨?_, ?_, ?_⟩
  · split
    · omega
    · split <;> omega
  · show ((ownS 1 (l ++ [v])).length : Int) - ((ownS 1 l).length : Int) ≤ 1
    omega
  · show 0 ≤ ((ownS 1 (l ++ [v])).length : Int) - ((ownS 1 l).length : Int)
    omega
theorem more_5 {l : List S26} (hl : l.length ≤ 999) (v : S26) (x z : S26) (hx : toldS 5 l = (x, 0)) (hz : toldS 5 (l ++ [v]) = (z, 0)) : 0 ≤ ov z x ∧ z.f1 - x.f1 ≤ 1 ∧ 0 ≤ z.f1 - x.f1 := by
  have hL : (l ++ [v]).length ≤ 1000 := by rw [List.length_append]; simp only [List.length_cons, List.length_nil]; omega
  rw [told_5 (by omega)] at hx
  rw [told_5 hL] at hz
  obtain ⟨rfl, _⟩ := Prod.mk.inj hx
  obtain ⟨rfl, _⟩ := Prod.mk.inj hz
  have hc : ((ownS 1 (l ++ [v])).foldl addV []).length ≤ ((ownS 1 l).foldl addV []).length + 1 ∧ ((ownS 1 l).foldl addV []).length ≤ ((ownS 1 (l ++ [v])).foldl addV []).length := by
    rw [own_app]
    split
    · rw [foldV_app]
      exact ⟨addV_len _ _, addV_grow _ _⟩
    · exact ⟨by omega, by omega⟩
  rw [ord_num]
  unfold num26
  refine ⟨?_, ?_, ?_⟩
  · split
    · omega
    · split <;> omega
  · show (((ownS 1 (l ++ [v])).foldl addV []).length : Int) - (((ownS 1 l).foldl addV []).length : Int) ≤ 1
    omega
  · show 0 ≤ (((ownS 1 (l ++ [v])).foldl addV []).length : Int) - (((ownS 1 l).foldl addV []).length : Int)
    omega
theorem ov_self (x : S26) : ov x x = 0 := V.ord_self _
theorem more_3 {l : List S26} (hl : l.length ≤ 999) (v : S26) (x z : S26) (hx : toldS 3 l = (x, 0)) (hz : toldS 3 (l ++ [v]) = (z, 0)) (hk : x.f0 ≠ 0) : ov z x ≤ 0 := by
  have hL : (l ++ [v]).length ≤ 1000 := by rw [List.length_append]; simp only [List.length_cons, List.length_nil]; omega
  rw [told_3 (by omega)] at hx
  rw [told_3 hL, own_app] at hz
  obtain ⟨rfl, _⟩ := Prod.mk.inj hx
  obtain ⟨rfl, _⟩ := Prod.mk.inj hz
  have hne : ownS 1 l ≠ [] := fun h => hk (by rw [h]; rfl)
  by_cases hc : own1 1 v = true
  · rw [if_pos hc, best_app 3 hne]
    unfold pick
    by_cases h : ov v (bestS 3 (ownS 1 l)) < 0
    · rw [if_pos (.inl ⟨rfl, h⟩)]; omega
    · rw [if_neg (by rintro (⟨_, h2⟩ | ⟨h2, _⟩); exact h h2; exact absurd h2 (by decide)), ov_self]; omega
  · rw [if_neg hc, ov_self]; omega
theorem more_4 {l : List S26} (hl : l.length ≤ 999) (v : S26) (x z : S26) (hx : toldS 4 l = (x, 0)) (hz : toldS 4 (l ++ [v]) = (z, 0)) (hk : x.f0 ≠ 0) : 0 ≤ ov z x := by
  have hL : (l ++ [v]).length ≤ 1000 := by rw [List.length_append]; simp only [List.length_cons, List.length_nil]; omega
  rw [told_4 (by omega)] at hx
  rw [told_4 hL, own_app] at hz
  obtain ⟨rfl, _⟩ := Prod.mk.inj hx
  obtain ⟨rfl, _⟩ := Prod.mk.inj hz
  have hne : ownS 1 l ≠ [] := fun h => hk (by rw [h]; rfl)
  by_cases hc : own1 1 v = true
  · rw [if_pos hc, best_app 4 hne]
    unfold pick
    by_cases h : 0 < ov v (bestS 4 (ownS 1 l))
    · rw [if_pos (.inr ⟨rfl, h⟩)]; omega
    · rw [if_neg (by rintro (⟨h2, _⟩ | ⟨_, h2⟩); exact absurd h2 (by decide); exact h h2), ov_self]; omega
  · rw [if_neg hc, ov_self]; omega
theorem told_size {fn : Int} (h1 : 1 ≤ fn) (h2 : fn < 6) {l : List S26} (hl : l.length ≤ 1000) (hs : ∀ x ∈ l, x.f2.size ≤ 300) {r : S26} {e : Int} (h : toldS fn l = (r, e)) : r.f2.size ≤ 9223372036854775807 := by
  have hz : z26.f2.size ≤ 300 := by decide
  have hn : ∀ k, (num26 k).f2.size ≤ 300 := fun k => by show (⟨#[]⟩ : ByteArray).size ≤ 300; decide
  have hb : ∀ g, (bestS g (ownS 1 l)).f2.size ≤ 300 := by
    intro g
    by_cases hne : ownS 1 l = []
    · rw [hne]; exact hz
    · exact hs _ (own_kind (best_mem g hne)).1
  have hfn : fn = 1 ∨ fn = 2 ∨ fn = 3 ∨ fn = 4 ∨ fn = 5 := by omega
  have : r.f2.size ≤ 300 := by
    rcases hfn with rfl | rfl | rfl | rfl | rfl
    · rw [told_1 hl] at h; obtain ⟨rfl, _⟩ := Prod.mk.inj h; exact hn _
    · rw [toldS_own (by decide) (by decide) hl] at h
      simp only [] at h
      revert h
      repeat (first | split | (intro h; obtain ⟨rfl, _⟩ := Prod.mk.inj h; first | exact hz | exact hn _ | exact hb _))
    · rw [told_3 hl] at h; obtain ⟨rfl, _⟩ := Prod.mk.inj h; exact hb _
    · rw [told_4 hl] at h; obtain ⟨rfl, _⟩ := Prod.mk.inj h; exact hb _
    · rw [told_5 hl] at h; obtain ⟨rfl, _⟩ := Prod.mk.inj h; exact hn _
  omega
theorem okI_app {l : List S26} (h : okI l) {x : S26} (hx : -9223372036854775808 ≤ x.f1 ∧ x.f1 ≤ 9223372036854775807) : okI (l ++ [x]) := by
  intro y hy
  rw [List.mem_append, List.mem_singleton] at hy
  rcases hy with hy | rfl
  · exact h y hy
  · exact hx

end Go.Proofs.Ytgjmpancofjjbaa.Q
