/- Chapter 18, part 2: the document's answer in plain words, and statement AggTells. -/
import Derived.Laws.Rows
import Derived.Deep.MidRow
import Derived.Deep.WholeRow
import Derived.Deep.RegionHeld3
import Derived.Deep.RegionLaw
import Derived.Test.YtgjmpancofjjbaaHstep
import Derived.Test.YtgjmpancofjjbaaHmapint
import Derived.Test.YtgjmpancofjjbaaHnum
import Derived.Test.YtgjmpancofjjbaaHval
import Derived.Test.YtgjmpancofjjbaaHvalord
import Derived.Test.YtgjmpancofjjbaaHagg18
import Derived.Test.YtgjmpancofjjbaaHagg18p
import Derived.Test.YtgjmpancofjjbaaQx0
import Derived.Test.YtgjmpancofjjbaaQx4
import Derived.Test.YtgjmpancofjjbaaQx5
import Derived.Test.YtgjmpancofjjbaaQx9
import Derived.Test.YtgjmpancofjjbaaQx10
import Derived.Test.YtgjmpancofjjbaaQx11
import Derived.Test.YtgjmpancofjjbaaQx12
namespace Go.Proofs.Ytgjmpancofjjbaa.Q
open Go.RowKit Go.Proofs.YtgjmpancofjjbaaW.PrintWords Go.Proofs.YtgjmpancofjjbaaW.PrintLast Go.Proofs.YtgjmpancofjjbaaW.PrintMore
attribute [local go_sem] max2_int min2_int max_two min_two max_three min_three max_four min_four   -- for this text's walks alone
set_option linter.unusedVariables false
set_option linter.unusedSimpArgs false

-- SAYS Chapter 18, part 2: the document's answer in plain words, and statement AggTells.
-- FUNCS winnower/winnowerref18.Value winnower/winnowerlaw18.few
-- NEEDS winnowerref18_Value.calls winnowerref18_sum.f winnowerref18_Own.f winnowerref08_Find.f winnowerlaw18_few.calls winnowerref06_Order.f winnowerref06_May.f
-- IMPORT Derived.Laws.Rows
-- IMPORT Derived.Deep.MidRow
-- IMPORT Derived.Deep.WholeRow
-- IMPORT Derived.Deep.RegionHeld3
-- IMPORT Derived.Deep.RegionLaw
-- IMPORT Derived.Test.YtgjmpancofjjbaaHstep
-- IMPORT Derived.Test.YtgjmpancofjjbaaHmapint
-- IMPORT Derived.Test.YtgjmpancofjjbaaHnum
-- IMPORT Derived.Test.YtgjmpancofjjbaaHval
-- IMPORT Derived.Test.YtgjmpancofjjbaaHvalord
-- IMPORT Derived.Test.YtgjmpancofjjbaaHagg18
-- IMPORT Derived.Test.YtgjmpancofjjbaaHagg18p
open Go.Proofs.Ytgjmpancofjjbaa.Hstep Go.Proofs.Ytgjmpancofjjbaa.Hmapint Go.Proofs.Ytgjmpancofjjbaa.Hnum Go.Proofs.Ytgjmpancofjjbaa.Hval
attribute [local go_sem high] eqV_
set_option maxHeartbeats 8000000
set_option maxRecDepth 100000
theorem ref18_may (k i : Int) (s : ByteArray) (b : Bool) : winnowerref06_May.f k i s b = some (V.may ⟨k, i, s, b⟩) := by
  unfold winnowerref06_May.f V.may
  simp only
  by_cases c0 : k = 0
  · rw [if_pos c0, if_neg (show ¬ k = 1 by omega), if_neg (show ¬ k = 2 by omega), if_neg (show ¬ k = 3 by omega), if_pos c0]
    by_cases h1 : i = 0
    · rw [if_pos h1]
      by_cases h2 : s.toList = []
      · rw [if_pos h2, h1, h2]; rfl
      · rw [if_neg h2, beq_eq_false_iff_ne.mpr h2]; simp
    · rw [if_neg h1, beq_eq_false_iff_ne.mpr h1]; simp
  · rw [if_neg c0]
    by_cases c1 : k = 1
    · rw [if_pos c1, if_pos c1]
      by_cases h2 : s.toList = []
      · rw [if_pos h2, h2]; rfl
      · rw [if_neg h2, beq_eq_false_iff_ne.mpr h2]; simp
    · rw [if_neg c1, if_neg c1]
      by_cases c2 : k = 2
      · rw [if_pos c2, if_pos c2]
        by_cases h1 : i = 0
        · rw [if_pos h1, h1]
          by_cases h3 : b = true
          · rw [if_pos h3, h3]; simp
          · rw [if_neg h3, show b = false from by simpa using h3]
            by_cases h4 : (s.size : Int) > 64
            · rw [if_pos h4, decide_eq_false (by omega)]
            · rw [if_neg h4, decide_eq_true (by omega)]; rfl
        · rw [if_neg h1, beq_eq_false_iff_ne.mpr h1]; simp
      · rw [if_neg c2, if_neg c2]
        by_cases c3 : k = 3
        · rw [if_pos c3, if_pos c3]
          by_cases h1 : i = 0
          · rw [if_pos h1, h1]; simp
          · rw [if_neg h1, beq_eq_false_iff_ne.mpr h1]; simp
        · rw [if_neg c3, if_neg c3, if_neg c0]
theorem own_go {fn : Int} {l : List S26} (hl : l.length ≤ 100) (q : Nat) : ∀ (d i : Nat) (acc : List S26), i + d = l.length → acc.length ≤ i → winnowerref18_Own.l0 (d + q + 1) fn l acc (i : Int) = some (acc ++ ownS fn (l.drop i)) := by
  intro d
  induction d with
  | zero => intro i acc h ha; rw [winnowerref18_Own.l0, if_neg (by omega), List.drop_of_length_le (by omega)]; simp [ownS]
  | succ d ih =>
    intro i acc h ha
    have hlt : i < l.length := by omega
    have ei : (i : Int) + 1 = ((i + 1 : Nat) : Int) := by omega
    have h0 := ih (i + 1) acc (by omega) (by omega)
    have h1 := ih (i + 1) (acc ++ [l[i]]) (by omega) (by rw [List.length_append]; simp only [List.length_cons, List.length_nil]; omega)
    have hnew : (⟨(l[i]).f0, (l[i]).f1, (l[i]).f2, (l[i]).f3⟩ : S26) = l[i] := rfl
    rw [show d + 1 + q + 1 = (d + q + 1) + 1 from by omega, winnowerref18_Own.l0, if_pos (by omega), if_pos (by omega), rd26_at hlt, ref18_may, Option.bind_some, wrap_id (x := (i : Int) + 1) (by omega) (by omega), List.drop_eq_getElem_cons hlt, hnew, ei, h0, h1]
    have hS : ownS fn (l[i] :: l.drop (i + 1)) = if own1 fn l[i] = true then l[i] :: ownS fn (l.drop (i + 1)) else ownS fn (l.drop (i + 1)) := by unfold ownS; rw [List.filter_cons]
    rw [hS]
    have hA : acc ++ l[i] :: ownS fn (l.drop (i + 1)) = acc ++ [l[i]] ++ ownS fn (l.drop (i + 1)) := by simp
    by_cases hm : V.may ⟨(l[i]).f0, (l[i]).f1, (l[i]).f2, (l[i]).f3⟩ = true
    · rw [if_pos hm]
      by_cases h0 : (l[i]).f0 = 0
      · rw [if_pos h0, if_neg (by unfold own1; simp [h0])]
      · rw [if_neg h0]
        by_cases h2 : fn = 2
        · rw [if_pos h2]
          by_cases h3 : (l[i]).f0 = 1
          · rw [if_pos h3, if_pos (by omega), if_pos (by unfold own1 mv_; rw [hm]; simp [h3]), hA]
          · rw [if_neg h3, if_neg (by unfold own1; simp [h2, h3])]
        · rw [if_neg h2, if_pos (by omega), if_pos (by unfold own1 mv_; rw [hm]; simp [h0, h2]), hA]
    · rw [if_neg hm, if_neg (by unfold own1 mv_; simp [hm])]
theorem own_tell (fn : Int) {l : List S26} (hl : l.length ≤ 100) {k : Nat} (hk : l.length + 1 ≤ k) : winnowerref18_Own.f k fn l = some (ownS fn l) := by
  obtain ⟨j, rfl⟩ := Nat.le.dest hk
  unfold winnowerref18_Own.f
  rw [show l.length + 1 + j = l.length + j + 1 from by omega]
  have := own_go (fn := fn) hl j l.length 0 [] (by omega) (by simp)
  rw [List.nil_append] at this
  exact this
theorem find_go {l : List S26} (v : S26) (hl : l.length ≤ 1000) (q : Nat) : ∀ (d i : Nat), i + d = l.length → winnowerref08_Find.l0 (d + q + 1) l (i : Int) v.f0 v.f1 v.f2 v.f3 = some (match findV v (l.drop i) i with | none => -1 | some j => (j : Int)) := by
  intro d
  induction d with
  | zero => intro i h; rw [winnowerref08_Find.l0, if_neg (by omega), List.drop_of_length_le (by omega)]; rfl
  | succ d ih =>
    intro i h
    have hlt : i < l.length := by omega
    have hh := ih (i + 1) (by omega)
    rw [show d + 1 + q + 1 = (d + q + 1) + 1 from by omega, winnowerref08_Find.l0, if_pos (by omega), if_pos (by omega), rd26_at hlt, wrap_id (x := (i : Int) + 1) (by omega) (by omega), List.drop_eq_getElem_cons hlt, show (i : Int) + 1 = ((i + 1 : Nat) : Int) by omega, hh]
    have he : ((l[i]).f0 == v.f0 && ((l[i]).f1 == v.f1 && ((l[i]).f2.toList == v.f2.toList && ((l[i]).f3 == v.f3)))) = eqb v l[i] := eqb_symm _ _
    rw [he, findV_cons]
    by_cases hq : eqb v l[i] = true
    · rw [if_pos hq, if_pos hq]
    · rw [if_neg hq, if_neg hq]
theorem find_tell {l : List S26} (v : S26) (hl : l.length ≤ 1000) {k : Nat} (hk : l.length + 1 ≤ k) : winnowerref08_Find.f k l v.f0 v.f1 v.f2 v.f3 = some (match findV v l 0 with | none => -1 | some j => (j : Int)) := by
  obtain ⟨j, rfl⟩ := Nat.le.dest hk
  unfold winnowerref08_Find.f
  rw [show l.length + 1 + j = l.length + j + 1 from by omega]
  exact find_go v hl j l.length 0 (by omega)
theorem dis_go {l : List S26} (hl : l.length ≤ 100) (q : Nat) (hq : 101 ≤ q) : ∀ (d i : Nat) (acc : List S26), i + d = l.length → acc.length ≤ i → winnowerref18_Value.l0 (d + q + 1) l acc (i : Int) = some (1, (((l.drop i).foldl addV acc).length : Int), ⟨#[]⟩, false, 0) := by
  intro d
  induction d with
  | zero => intro i acc h ha; rw [winnowerref18_Value.l0, if_neg (by omega), List.drop_of_length_le (by omega)]; rfl
  | succ d ih =>
    intro i acc h ha
    have hlt : i < l.length := by omega
    have hnew : (⟨(l[i]).f0, (l[i]).f1, (l[i]).f2, (l[i]).f3⟩ : S26) = l[i] := rfl
    have hh := ih (i + 1) (addV acc l[i]) (by omega) (by have := addV_len acc l[i]; omega)
    rw [show d + 1 + q + 1 = (d + q + 1) + 1 from by omega, winnowerref18_Value.l0, if_pos (by omega), if_pos (by omega), rd26_at hlt, find_tell l[i] (by omega) (by omega), Option.bind_some, wrap_id (x := (i : Int) + 1) (by omega) (by omega), List.drop_eq_getElem_cons hlt, show (i : Int) + 1 = ((i + 1 : Nat) : Int) by omega, List.foldl_cons, hnew]
    unfold addV at hh ⊢
    cases hf : findV l[i] acc 0 with
    | none =>
      rw [hf] at hh
      rw [if_pos (by simp), if_pos (by omega)]
      exact hh
    | some j =>
      rw [hf] at hh
      rw [if_neg (by simp)]
      exact hh
theorem order_tell (x b : S26) (h : x.f2.size ≤ 9223372036854775807) : winnowerref06_Order.f x.f0 x.f1 x.f2 x.f3 b.f0 b.f1 b.f2 b.f3 = some (ov x b) := by
  unfold winnowerref06_Order.f
  rw [if_pos h]
  rfl
theorem best_go {fn : Int} (hfn : fn = 3 ∨ fn = 4) {l : List S26} (hl : l.length ≤ 100) (hs : ∀ x ∈ l, x.f2.size ≤ 300) (q : Nat) : ∀ (d i : Nat) (b : S26), i + d = l.length → 1 ≤ i → winnowerref18_Value.l1 (d + q + 1) fn l (i : Int) b.f0 b.f1 b.f2 b.f3 = some (((l.drop i).foldl (pick fn) b).f0, ((l.drop i).foldl (pick fn) b).f1, ((l.drop i).foldl (pick fn) b).f2, ((l.drop i).foldl (pick fn) b).f3, 0) := by
  intro d
  induction d with
  | zero => intro i b h h1; rw [winnowerref18_Value.l1, if_neg (by omega), List.drop_of_length_le (by omega)]; rfl
  | succ d ih =>
    intro i b h h1
    have hlt : i < l.length := by omega
    have hz := hs l[i] (List.getElem_mem hlt)
    have hx := ih (i + 1) l[i] (by omega) (by omega)
    have hb := ih (i + 1) b (by omega) (by omega)
    rw [show d + 1 + q + 1 = (d + q + 1) + 1 from by omega, winnowerref18_Value.l1, if_pos (by omega), if_pos (by omega), rd26_at hlt, order_tell l[i] b (by omega), Option.bind_some, if_neg (by omega), wrap_id (x := (i : Int) + 1) (by omega) (by omega), List.drop_eq_getElem_cons hlt, show (i : Int) + 1 = ((i + 1 : Nat) : Int) by omega, List.foldl_cons, hx, hb]
    have hp : pick fn b l[i] = if (fn = 3 ∧ ov l[i] b < 0) ∨ (fn = 4 ∧ 0 < ov l[i] b) then l[i] else b := rfl
    rw [hp]
    rcases hfn with h3 | h4
    · rw [if_pos h3]
      by_cases hc : ov l[i] b < 0
      · rw [if_pos hc, if_pos (.inl ⟨h3, hc⟩)]
      · rw [if_neg hc, if_neg (by omega), if_neg (by rintro (⟨_, h⟩ | ⟨h, _⟩) <;> omega)]
    · rw [if_neg (by omega), if_pos h4]
      by_cases hc : 0 < ov l[i] b
      · rw [if_pos (by omega), if_pos (.inr ⟨h4, hc⟩)]
      · rw [if_neg (by omega), if_neg (by rintro (⟨h, _⟩ | ⟨_, h⟩) <;> omega)]
theorem best_tell {fn : Int} (hfn : fn = 3 ∨ fn = 4) {l : List S26} (hl : l.length ≤ 100) (hs : ∀ x ∈ l, x.f2.size ≤ 300) {k : Nat} (hk : l.length + 1 ≤ k) : winnowerref18_Value.l1 k fn l 0 0 0 ⟨#[]⟩ false = some ((bestS fn l).f0, (bestS fn l).f1, (bestS fn l).f2, (bestS fn l).f3, 0) := by
  obtain ⟨q, rfl⟩ := Nat.le.dest hk
  cases l with
  | nil => rw [show ([] : List S26).length + 1 + q = q + 1 from by simp; omega, winnowerref18_Value.l1, if_neg (by simp)]; rfl
  | cons x t =>
    have hz := hs x (List.mem_cons_self ..)
    have hg := best_go hfn hl hs q t.length 1 x (by simp only [List.length_cons]; omega) (Nat.le_refl _)
    rw [show (x :: t).length + 1 + q = (t.length + q + 1) + 1 from by simp only [List.length_cons]; omega, winnowerref18_Value.l1, if_pos (by simp only [List.length_cons]; omega), if_pos (by omega), show rd_T26 (x :: t) 0 = x from rfl, show winnowerref06_Order.f x.f0 x.f1 x.f2 x.f3 0 0 ⟨#[]⟩ false = some (ov x z26) from order_tell x z26 (by omega), Option.bind_some, if_pos rfl, show wrap64 (0 + 1) = ((1 : Nat) : Int) by unfold wrap64; decide]
    exact hg
theorem tsum_cut {l : List Int} {a : Nat} (h : a < l.length) : tsum l = l[a] + tsum (l.take a ++ l.drop (a + 1)) := by
  have e : l = l.take a ++ l[a] :: l.drop (a + 1) := by rw [← List.drop_eq_getElem_cons h, List.take_append_drop]
  have := congrArg tsum e
  rw [tsum_app, tsum] at this
  rw [this, tsum_app]
  omega
theorem tsum_pos : ∀ l : List Int, (∀ x ∈ l, 0 ≤ x) → 0 ≤ tsum l
  | [], _ => by simp [tsum]
  | x :: t, h => by have h1 := h x (List.mem_cons_self ..); have h2 := tsum_pos t (fun y hy => h y (List.mem_cons_of_mem _ hy)); rw [tsum]; omega
theorem tsum_neg : ∀ l : List Int, (∀ x ∈ l, x < 0) → tsum l ≤ 0
  | [], _ => by simp [tsum]
  | x :: t, h => by have h1 := h x (List.mem_cons_self ..); have h2 := tsum_neg t (fun y hy => h y (List.mem_cons_of_mem _ hy)); rw [tsum]; omega
theorem none_fits {n : Int} {l : List Int} (hn : inR n) (hl : ∀ x ∈ l, inR x) (h0 : l ≠ []) (h : ∀ x ∈ l, ¬ inR (n + x)) : ¬ inR (n + tsum l) := by
  cases l with
  | nil => exact absurd rfl h0
  | cons x t =>
    unfold inR at *
    have hx := hl x (List.mem_cons_self ..)
    have hx2 := h x (List.mem_cons_self ..)
    rw [tsum]
    by_cases hp : 0 ≤ x
    · have := tsum_pos t (fun y hy => by
        have a := hl y (List.mem_cons_of_mem _ hy)
        have b := h y (List.mem_cons_of_mem _ hy)
        omega)
      omega
    · have := tsum_neg t (fun y hy => by
        have a := hl y (List.mem_cons_of_mem _ hy)
        have b := h y (List.mem_cons_of_mem _ hy)
        omega)
      omega
theorem rd_at {l : List Int} {i : Nat} (h : i < l.length) : rd l (i : Int) = l[i] := by
  unfold rd
  rw [Int.toNat_natCast, List.getD_eq_getElem?_getD, List.getElem?_eq_getElem h]
  rfl
theorem l2_step {l : List Int} {n : Int} (hn : inR n) (hl : ∀ x ∈ l, inR x) (hL : l.length ≤ 100) (k : Nat) (at_ : Int) (i : Nat) (h : i < l.length) :
    winnowerref18_sum.l2 (k + 1) l n at_ (i : Int) = winnowerref18_sum.l2 k l n (if inR (n + l[i]) ∧ (at_ < 0 ∨ (decide (l[i] < 0) == decide (n > 0)) = true) then (i : Int) else at_) ((i + 1 : Nat) : Int) := by
  have hx := hl l[i] (List.getElem_mem h)
  rw [winnowerref18_sum.l2, if_pos (by omega), if_pos (by omega), rd_at h, wrap_id (x := (i : Int) + 1) (by omega) (by omega), show (i : Int) + 1 = ((i + 1 : Nat) : Int) by omega]
  generalize l[i] = x at hx
  unfold inR at *
  by_cases hp : x ≥ 0
  · rw [if_pos hp, wrap_id (x := 9223372036854775807 - x) (by omega) (by omega)]
    by_cases hf : n ≤ 9223372036854775807 - x
    · rw [if_pos hf]
      by_cases ha : at_ < 0
      · rw [if_pos ha, if_pos ⟨by omega, .inl ha⟩]
      · rw [if_neg ha]
        by_cases hs : (decide (x < 0) == decide (n > 0)) = true
        · rw [if_pos hs, if_pos ⟨by omega, .inr hs⟩]
        · rw [if_neg hs, if_neg (by rintro ⟨_, h | h⟩; exact ha h; exact hs h)]
    · rw [if_neg hf, if_neg (show ¬ x < 0 by omega), if_neg (by rintro ⟨h, _⟩; omega)]
  · rw [if_neg hp, if_pos (show x < 0 by omega), wrap_id (x := (-9223372036854775808) - x) (by omega) (by omega)]
    by_cases hf : n ≥ (-9223372036854775808) - x
    · rw [if_pos hf]
      by_cases ha : at_ < 0
      · rw [if_pos ha, if_pos ⟨by omega, .inl ha⟩]
      · rw [if_neg ha]
        by_cases hs : (decide (x < 0) == decide (n > 0)) = true
        · rw [if_pos hs, if_pos ⟨by omega, .inr hs⟩]
        · rw [if_neg hs, if_neg (by rintro ⟨_, h | h⟩; exact ha h; exact hs h)]
    · rw [if_neg hf, if_neg (by rintro ⟨h, _⟩; omega)]
theorem l2_scan {l : List Int} {n : Int} (hn : inR n) (hl : ∀ x ∈ l, inR x) (hL : l.length ≤ 100) (q : Nat) : ∀ (d i : Nat) (at_ : Int), i + d = l.length →
    (at_ = -1 ∨ ∃ (a : Nat) (ha : a < l.length), at_ = (a : Int) ∧ inR (n + l[a])) →
    ∃ at', winnowerref18_sum.l2 (d + q) l n at_ (i : Int) = winnowerref18_sum.l2 q l n at' (l.length : Int) ∧ ((at' = -1 ∧ at_ = -1 ∧ ∀ j (hj : j < l.length), i ≤ j → ¬ inR (n + l[j])) ∨ ∃ (a : Nat) (ha : a < l.length), at' = (a : Int) ∧ inR (n + l[a])) := by
  intro d
  induction d with
  | zero =>
    intro i at_ h ha
    refine ⟨at_, by rw [show i = l.length by omega, Nat.zero_add], ?_⟩
    rcases ha with rfl | ha
    · exact .inl ⟨rfl, rfl, fun j hj hij => by omega⟩
    · exact .inr ha
  | succ d ih =>
    intro i at_ h ha
    have hlt : i < l.length := by omega
    rw [show d + 1 + q = (d + q) + 1 from by omega, l2_step hn hl hL _ _ _ hlt]
    by_cases hc : inR (n + l[i]) ∧ (at_ < 0 ∨ (decide (l[i] < 0) == decide (n > 0)) = true)
    · rw [if_pos hc]
      obtain ⟨at', e, hr⟩ := ih (i + 1) (i : Int) (by omega) (.inr ⟨i, hlt, rfl, hc.1⟩)
      refine ⟨at', e, ?_⟩
      rcases hr with ⟨_, h2, _⟩ | hr
      · omega
      · exact .inr hr
    · rw [if_neg hc]
      obtain ⟨at', e, hr⟩ := ih (i + 1) at_ (by omega) ha
      refine ⟨at', e, ?_⟩
      rcases hr with ⟨h1, h2, h3⟩ | hr
      · refine .inl ⟨h1, h2, fun j hj hij => ?_⟩
        by_cases hji : j = i
        · subst hji
          exact fun hI => hc ⟨hI, .inl (by omega)⟩
        · exact h3 j hj (by omega)
      · exact .inr hr
theorem sum_l1 : ∀ (L : Nat) (l : List Int) (n : Int) (k : Nat), l.length = L → L ≤ 100 → inR n → (∀ x ∈ l, inR x) → 103 * L + 1 ≤ k →
    winnowerref18_sum.l1 k l n = some (if inR (n + tsum l) then (n + tsum l, true) else (0, false)) := by
  intro L
  induction L with
  | zero =>
    intro l n k hL h100 hn hl hk
    obtain ⟨q, rfl⟩ : ∃ q, k = q + 1 := ⟨k - 1, by omega⟩
    obtain rfl := List.eq_nil_of_length_eq_zero hL
    rw [winnowerref18_sum.l1, if_neg (by simp), tsum, Int.add_zero, if_pos hn]
  | succ L ih =>
    intro l n k hL h100 hn hl hk
    obtain ⟨q, rfl⟩ : ∃ q, k = l.length + (q + 1) + 1 := ⟨k - l.length - 2, by omega⟩
    rw [winnowerref18_sum.l1, if_pos (by omega)]
    obtain ⟨at', e, hr⟩ := l2_scan hn hl (by omega) (q + 1) l.length 0 (-1) (by omega) (.inl rfl)
    rw [show ((0 : Nat) : Int) = 0 from rfl] at e
    rw [e, winnowerref18_sum.l2, if_neg (by omega)]
    rcases hr with ⟨rfl, _, h3⟩ | ⟨a, ha, rfl, hf⟩
    · rw [if_pos (by omega), if_neg]
      refine none_fits hn hl (fun h => by rw [h] at hL; simp at hL) (fun x hx => ?_)
      obtain ⟨j, hj, rfl⟩ := List.getElem_of_mem hx
      exact h3 j hj (Nat.zero_le _)
    · have hlen : (l.take a ++ l.drop (a + 1)).length = L := by rw [List.length_append, List.length_take, List.length_drop]; omega
      have ht : (l.take a).length ≤ 100 := by rw [List.length_take]; omega
      rw [if_neg (by omega), if_pos (by omega), if_pos (by omega), if_pos (by omega), rd_at ha, Option.bind_some, Int.toNat_natCast, wrap_id (x := (a : Int) + 1) (by omega) (by omega)]
      rw [if_pos (by simp only [List.length_nil]; omega), Option.bind_some, if_pos (by omega), if_pos (by omega), Option.bind_some, List.nil_append, show ((a : Int) + 1).toNat = a + 1 by omega, ← List.length_append, if_pos (by omega), wrap_id (x := n + l[a]) (by unfold inR at hf; omega) (by unfold inR at hf; omega)]
      rw [ih _ _ q hlen (by omega) hf (fun x hx => ?_) (by omega), tsum_cut ha]
      · rw [Int.add_assoc]
      · rw [List.mem_append] at hx
        rcases hx with hx | hx
        · exact hl x (List.mem_of_mem_take hx)
        · exact hl x (List.mem_of_mem_drop hx)
theorem sum_l0 {l : List S26} (hl : l.length ≤ 100) (q : Nat) : ∀ (d i : Nat) (acc : List Int), i + d = l.length → acc.length ≤ i → winnowerref18_sum.l0 (d + q + 1) l acc (i : Int) = winnowerref18_sum.l1 q (acc ++ (l.drop i).map (·.f1)) 0 := by
  intro d
  induction d with
  | zero => intro i acc h ha; rw [Nat.zero_add, winnowerref18_sum.l0, if_neg (by omega), List.drop_of_length_le (by omega)]; simp
  | succ d ih =>
    intro i acc h ha
    have hlt : i < l.length := by omega
    have hh := ih (i + 1) (acc ++ [(l[i]).f1]) (by omega) (by rw [List.length_append]; simp only [List.length_cons, List.length_nil]; omega)
    rw [show d + 1 + q + 1 = (d + q + 1) + 1 from by omega, winnowerref18_sum.l0, if_pos (by omega), if_pos (by omega), if_pos (by omega), rd26_at hlt, wrap_id (x := (i : Int) + 1) (by omega) (by omega), show (i : Int) + 1 = ((i + 1 : Nat) : Int) by omega, hh, List.drop_eq_getElem_cons hlt, List.map_cons]
    simp
theorem sum_tell {l : List S26} (hl : l.length ≤ 100) (ho : okI l) {k : Nat} (hk : 10500 ≤ k) : winnowerref18_sum.f k l = some (if inR (tsum (l.map (·.f1))) then (tsum (l.map (·.f1)), true) else (0, false)) := by
  obtain ⟨q, rfl⟩ : ∃ q, k = l.length + q + 1 := ⟨k - l.length - 1, by omega⟩
  unfold winnowerref18_sum.f
  have := sum_l0 hl q l.length 0 [] (by omega) (by simp)
  rw [show ((0 : Nat) : Int) = 0 from rfl, List.nil_append, List.drop_zero] at this
  rw [this, sum_l1 l.length (l.map (·.f1)) 0 q (by simp) hl (by unfold inR; omega) (fun x hx => by
    obtain ⟨y, hy, rfl⟩ := List.mem_map.1 hx
    exact ho y hy) (by omega), Int.zero_add]
theorem ref18_tell {fn : Int} (h1 : 1 ≤ fn) (h2 : fn < 6) {l : List S26} (hf : fewS l = true) (ho : okI l) :
    winnowerref18_Value.f 11000 fn l = some ((toldS fn l).1.f0, (toldS fn l).1.f1, (toldS fn l).1.f2, (toldS fn l).1.f3, (toldS fn l).2) := by
  obtain ⟨hl, hs⟩ := few_len hf
  have hO := ownS_len fn l
  have hso : ∀ x ∈ ownS fn l, x.f2.size ≤ 300 := fun x hx => hs x (List.mem_filter.1 hx).1
  have hoo : okI (ownS fn l) := fun x hx => ho x (List.mem_filter.1 hx).1
  unfold winnowerref18_Value.f
  rw [own_tell fn hl (by omega), Option.bind_some, toldS_own h1 h2 (by omega)]
  by_cases k1 : fn = 1
  · subst k1
    rw [if_pos rfl, if_pos rfl]
    rfl
  · rw [if_neg k1, if_neg k1]
    by_cases k5 : fn = 5
    · subst k5
      have hg := dis_go (l := ownS 5 l) (by omega) (10999 - (ownS 5 l).length) (by omega) (ownS 5 l).length 0 [] (by omega) (by simp)
      rw [show (ownS 5 l).length + (10999 - (ownS 5 l).length) + 1 = 11000 from by omega, show ((0 : Nat) : Int) = 0 from rfl, List.drop_zero] at hg
      rw [if_pos rfl, hg]
      rfl
    · rw [if_neg k5]
      by_cases k2 : fn = 2
      · subst k2
        rw [if_pos rfl, if_pos rfl, sum_tell (by omega) hoo (by omega), Option.bind_some]
        by_cases hr : inR (tsum ((ownS 2 l).map (·.f1)))
        · rw [if_pos hr]
          simp only [if_true]
          by_cases h0 : (ownS 2 l).length = 0
          · rw [if_pos (by omega), if_pos h0]
            rfl
          · rw [if_neg (by omega), if_neg h0, if_pos hr]
            rfl
        · rw [if_neg hr]
          simp only [Bool.false_eq_true, if_false]
          have h0 : (ownS 2 l).length ≠ 0 := fun h => hr (by
            rw [List.eq_nil_of_length_eq_zero h]
            show inR 0
            decide)
          rw [if_neg h0, if_neg hr]
          rfl
      · rw [if_neg k2, if_neg k2]
        by_cases k3 : fn = 3
        · subst k3
          rw [if_pos rfl, best_tell (.inl rfl) (by omega) hso (by omega)]
        · have k4 : fn = 4 := by omega
          subst k4
          rw [if_neg k3, if_pos rfl, best_tell (.inr rfl) (by omega) hso (by omega)]
theorem winnowerlaw18_AggTells.no_ (fn : Int) (l : List S26) (A : Option Addr) (c : Nat) (w : World) (hr : Kd.C k26 w A l.length l) (hc : l.length ≤ c) (ho : okI l) (hf : fewS l = false) :
    Calls Try.prog 3 #[.int .i64 fn, .slice A l.length c] w fun e w' => e = .returned (.bool true) ∧ Below w.heap.size w w' := by
  have HB := Aside0.mk (Below.refl w.heap.size w)
  have HR := Aside0.mk hr
  have HC := Aside0.mk hc
  have HO := Aside0.mk ho
  have hu26 := Try.underlying26
  clear hr hc ho
  have HF := Aside0.mk (show winnowerlaw18_few.f (l.length + 1) l = some false by rw [few_tell, hf])
  clear hf
  go_enter Try.func3, Try.ntmps3
  go_wp2_with (first
    | ((with_reducible refine gate_callee (f := 7) rfl ?_); refine goesL_ (some 11) rfl rfl Try.func7 (by kernel_rfl) rfl #[] rfl (by (try simp only [List.map_toArray, List.map_cons, List.map_nil]); first | done | rfl) ?_; go_loud (refine (winnowerlaw18_awake.calls _).mono ?_); rintro e w1 ⟨rfl, hb⟩; refine ⟨_, rfl, ?_⟩; have b_HB := Aside0.mk (below_step HB.out hb); clear HB hb; have HB := b_HB; clear b_HB)
    | ((with_reducible refine gate_callee (f := 8) rfl ?_); refine goesL_ (some 13) rfl rfl Try.func8 (by kernel_rfl) rfl #[.slice A l.length c] rfl (by (try simp only [List.map_toArray, List.map_cons, List.map_nil]); first | done | rfl) ?_; go_loud (refine (winnowerlaw18_few.calls (l.length + 1) A c l false _ (Kd.C_below HR.out HB.out) HC.out HF.out).mono ?_); rintro e w2 ⟨rfl, hd⟩; refine ⟨_, rfl, ?_⟩; have hb := hd.below; clear hd; have b_HB := Aside0.mk (below_step HB.out hb); clear HB hb; have HB := b_HB; clear b_HB))
  go_ret
  exact ⟨rfl, HB.out⟩
theorem winnowerlaw18_AggTells.bad1 (fn : Int) (l : List S26) (A : Option Addr) (c : Nat) (w : World) (hr : Kd.C k26 w A l.length l) (hc : l.length ≤ c) (ho : okI l) (hf : fewS l = true) (q1 : decide (fn < 1) = true) :
    Calls Try.prog 3 #[.int .i64 fn, .slice A l.length c] w fun e w' => e = .returned (.bool true) ∧ Below w.heap.size w w' := by
  have HB := Aside0.mk (Below.refl w.heap.size w)
  have HR := Aside0.mk hr
  have HC := Aside0.mk hc
  have HO := Aside0.mk ho
  have hu26 := Try.underlying26
  clear hr hc ho
  have HF := Aside0.mk (show winnowerlaw18_few.f (l.length + 1) l = some true by rw [few_tell, hf])
  have HL := Aside0.mk (show l.length ≤ 1000 by have := (few_len hf).1; omega)
  have HT := Aside0.mk (show toldS fn l = (z26, 1) from if_pos (by have := of_decide_eq_true q1; omega))
  clear hf
  go_enter Try.func3, Try.ntmps3
  go_wp2_with (first
    | ((with_reducible refine gate_callee (f := 7) rfl ?_); refine goesL_ (some 11) rfl rfl Try.func7 (by kernel_rfl) rfl #[] rfl (by (try simp only [List.map_toArray, List.map_cons, List.map_nil]); first | done | rfl) ?_; go_loud (refine (winnowerlaw18_awake.calls _).mono ?_); rintro e w1 ⟨rfl, hb⟩; refine ⟨_, rfl, ?_⟩; have b_HB := Aside0.mk (below_step HB.out hb); clear HB hb; have HB := b_HB; clear b_HB)
    | ((with_reducible refine gate_callee (f := 8) rfl ?_); refine goesL_ (some 13) rfl rfl Try.func8 (by kernel_rfl) rfl #[.slice A l.length c] rfl (by (try simp only [List.map_toArray, List.map_cons, List.map_nil]); first | done | rfl) ?_; go_loud (refine (winnowerlaw18_few.calls (l.length + 1) A c l true _ (Kd.C_below HR.out HB.out) HC.out HF.out).mono ?_); rintro e w2 ⟨rfl, hd⟩; refine ⟨_, rfl, ?_⟩; have hb := hd.below; clear hd; have b_HB := Aside0.mk (below_step HB.out hb); clear HB hb; have HB := b_HB; clear b_HB)
    | ((with_reducible refine gate_callee (f := 9) rfl ?_); refine goesL_ (some 24) rfl rfl Try.func9 (by kernel_rfl) rfl #[.int .i64 fn, .slice A l.length c] rfl (by (try simp only [List.map_toArray, List.map_cons, List.map_nil]); first | done | rfl) ?_; go_loud (refine (winnowerlaw18_told.calls fn l A c z26 1 _ (Kd.C_below HR.out HB.out) HL.out HO.out HT.out).mono ?_); rintro e w3 ⟨rfl, hb⟩; refine ⟨_, rfl, ?_⟩; have b_HB := Aside0.mk (below_step HB.out hb); clear HB hb; have HB := b_HB; clear b_HB)
    | ((with_reducible refine gate_dst (N := 7) rfl ?_); refine box_event ?hg (N := 7) ?hd (cs := #[.int .i64 0, .int .i64 0, .string ⟨#[]⟩, .bool false]) (t := 26) ?hr ?_; (case hd => rfl); (case hg => rfl); (case hr => first | (go_simp; done) | (go_simp; rfl)); intro g7 hg w4 hbox hb; have B7 := Aside0.mk hbox; have GEB7 := Aside0.mk ((by rw [hg]; exact (below_size HB.out)) : w.heap.size ≤ g7); have b_HB := Aside0.mk (below_step HB.out hb); clear HB; have HB := b_HB; clear b_HB; clear hbox hg hb)
    | ((with_reducible refine gate_ (.store 26 (.tmp 7) (.tmp 25)) rfl ?_); go_loud (refine wpList_storeR rfl rfl 26 (.tmp 7) (.tmp 25) rfl g7 (0) rfl (.agg #[.int .i64 0, .int .i64 0, .string ⟨#[]⟩, .bool false]) rfl [.int .i64 0, .int .i64 0, .string ⟨#[]⟩, .bool false] rfl #[.int .i64 0, .int .i64 0, .string ⟨#[]⟩, .bool false] 26 B7.out size26 (by simp) (by simp [Value.oneCell']) #[.int .i64 0, .int .i64 0, .string ⟨#[]⟩, .bool false] rfl ?_); intro w5 hs st; have b_HB := Aside0.mk (Step.fresh st HB.out GEB7.out); clear HB; have HB := b_HB; clear b_HB; clear B7; have B7 := Aside0.mk hs; clear hs st; have hz0 : w5.cell? ⟨g7, 0, none⟩ = some (.int .i64 0) := (blk_cell B7.out 0).trans rfl; have hz1 : w5.cell? ⟨g7, 1, none⟩ = some (.int .i64 0) := (blk_cell B7.out 1).trans rfl; have hz2 : w5.cell? ⟨g7, 2, none⟩ = some (.string ⟨#[]⟩) := (blk_cell B7.out 2).trans rfl; have hz3 : w5.cell? ⟨g7, 3, none⟩ = some (.bool false) := (blk_cell B7.out 3).trans rfl))
  go_ret
  exact ⟨rfl, HB.out⟩
theorem winnowerlaw18_AggTells.bad2 (fn : Int) (l : List S26) (A : Option Addr) (c : Nat) (w : World) (hr : Kd.C k26 w A l.length l) (hc : l.length ≤ c) (ho : okI l) (hf : fewS l = true) (q1 : decide (fn < 1) = false) (q2 : decide (6 ≤ fn) = true) :
    Calls Try.prog 3 #[.int .i64 fn, .slice A l.length c] w fun e w' => e = .returned (.bool true) ∧ Below w.heap.size w w' := by
  have HB := Aside0.mk (Below.refl w.heap.size w)
  have HR := Aside0.mk hr
  have HC := Aside0.mk hc
  have HO := Aside0.mk ho
  have hu26 := Try.underlying26
  clear hr hc ho
  have HF := Aside0.mk (show winnowerlaw18_few.f (l.length + 1) l = some true by rw [few_tell, hf])
  have HL := Aside0.mk (show l.length ≤ 1000 by have := (few_len hf).1; omega)
  have HT := Aside0.mk (show toldS fn l = (z26, 1) from if_pos (by have := of_decide_eq_true q2; omega))
  clear hf
  go_enter Try.func3, Try.ntmps3
  go_wp2_with (first
    | ((with_reducible refine gate_callee (f := 7) rfl ?_); refine goesL_ (some 11) rfl rfl Try.func7 (by kernel_rfl) rfl #[] rfl (by (try simp only [List.map_toArray, List.map_cons, List.map_nil]); first | done | rfl) ?_; go_loud (refine (winnowerlaw18_awake.calls _).mono ?_); rintro e w1 ⟨rfl, hb⟩; refine ⟨_, rfl, ?_⟩; have b_HB := Aside0.mk (below_step HB.out hb); clear HB hb; have HB := b_HB; clear b_HB)
    | ((with_reducible refine gate_callee (f := 8) rfl ?_); refine goesL_ (some 13) rfl rfl Try.func8 (by kernel_rfl) rfl #[.slice A l.length c] rfl (by (try simp only [List.map_toArray, List.map_cons, List.map_nil]); first | done | rfl) ?_; go_loud (refine (winnowerlaw18_few.calls (l.length + 1) A c l true _ (Kd.C_below HR.out HB.out) HC.out HF.out).mono ?_); rintro e w2 ⟨rfl, hd⟩; refine ⟨_, rfl, ?_⟩; have hb := hd.below; clear hd; have b_HB := Aside0.mk (below_step HB.out hb); clear HB hb; have HB := b_HB; clear b_HB)
    | ((with_reducible refine gate_callee (f := 9) rfl ?_); refine goesL_ (some 24) rfl rfl Try.func9 (by kernel_rfl) rfl #[.int .i64 fn, .slice A l.length c] rfl (by (try simp only [List.map_toArray, List.map_cons, List.map_nil]); first | done | rfl) ?_; go_loud (refine (winnowerlaw18_told.calls fn l A c z26 1 _ (Kd.C_below HR.out HB.out) HL.out HO.out HT.out).mono ?_); rintro e w3 ⟨rfl, hb⟩; refine ⟨_, rfl, ?_⟩; have b_HB := Aside0.mk (below_step HB.out hb); clear HB hb; have HB := b_HB; clear b_HB)
    | ((with_reducible refine gate_dst (N := 7) rfl ?_); refine box_event ?hg (N := 7) ?hd (cs := #[.int .i64 0, .int .i64 0, .string ⟨#[]⟩, .bool false]) (t := 26) ?hr ?_; (case hd => rfl); (case hg => rfl); (case hr => first | (go_simp; done) | (go_simp; rfl)); intro g7 hg w4 hbox hb; have B7 := Aside0.mk hbox; have GEB7 := Aside0.mk ((by rw [hg]; exact (below_size HB.out)) : w.heap.size ≤ g7); have b_HB := Aside0.mk (below_step HB.out hb); clear HB; have HB := b_HB; clear b_HB; clear hbox hg hb)
    | ((with_reducible refine gate_ (.store 26 (.tmp 7) (.tmp 25)) rfl ?_); go_loud (refine wpList_storeR rfl rfl 26 (.tmp 7) (.tmp 25) rfl g7 (0) rfl (.agg #[.int .i64 0, .int .i64 0, .string ⟨#[]⟩, .bool false]) rfl [.int .i64 0, .int .i64 0, .string ⟨#[]⟩, .bool false] rfl #[.int .i64 0, .int .i64 0, .string ⟨#[]⟩, .bool false] 26 B7.out size26 (by simp) (by simp [Value.oneCell']) #[.int .i64 0, .int .i64 0, .string ⟨#[]⟩, .bool false] rfl ?_); intro w5 hs st; have b_HB := Aside0.mk (Step.fresh st HB.out GEB7.out); clear HB; have HB := b_HB; clear b_HB; clear B7; have B7 := Aside0.mk hs; clear hs st; have hz0 : w5.cell? ⟨g7, 0, none⟩ = some (.int .i64 0) := (blk_cell B7.out 0).trans rfl; have hz1 : w5.cell? ⟨g7, 1, none⟩ = some (.int .i64 0) := (blk_cell B7.out 1).trans rfl; have hz2 : w5.cell? ⟨g7, 2, none⟩ = some (.string ⟨#[]⟩) := (blk_cell B7.out 2).trans rfl; have hz3 : w5.cell? ⟨g7, 3, none⟩ = some (.bool false) := (blk_cell B7.out 3).trans rfl))
  go_ret
  exact ⟨rfl, HB.out⟩
theorem winnowerlaw18_AggTells.ok_ (fn : Int) (l : List S26) (A : Option Addr) (c : Nat) (w : World) (hr : Kd.C k26 w A l.length l) (hc : l.length ≤ c) (ho : okI l) (hf : fewS l = true) (h1 : 1 ≤ fn) (h2 : fn < 6) (r : S26) (er : Int) (ht : toldS fn l = (r, er)) :
    Calls Try.prog 3 #[.int .i64 fn, .slice A l.length c] w fun e w' => e = .returned (.bool true) ∧ Below w.heap.size w w' := by
  have HB := Aside0.mk (Below.refl w.heap.size w)
  have HR := Aside0.mk hr
  have HC := Aside0.mk hc
  have HO := Aside0.mk ho
  have hu26 := Try.underlying26
  clear hr hc ho
  have HF := Aside0.mk (show winnowerlaw18_few.f (l.length + 1) l = some true by rw [few_tell, hf])
  have HL := Aside0.mk (show l.length ≤ 1000 by have := (few_len hf).1; omega)
  have HT := Aside0.mk ht
  have HV := Aside0.mk (show winnowerref18_Value.f 11000 fn l = some (r.f0, r.f1, r.f2, r.f3, er) by have h := ref18_tell h1 h2 hf HO.out; rw [ht] at h; exact h)
  have q1 : decide (fn < 1) = false := decide_eq_false (by omega)
  have q2 : decide (6 ≤ fn) = false := decide_eq_false (by omega)
  clear hf h1 h2 ht
  go_enter Try.func3, Try.ntmps3
  go_wp2_with (first
    | ((with_reducible refine gate_callee (f := 7) rfl ?_); refine goesL_ (some 11) rfl rfl Try.func7 (by kernel_rfl) rfl #[] rfl (by (try simp only [List.map_toArray, List.map_cons, List.map_nil]); first | done | rfl) ?_; go_loud (refine (winnowerlaw18_awake.calls _).mono ?_); rintro e w1 ⟨rfl, hb⟩; refine ⟨_, rfl, ?_⟩; have b_HB := Aside0.mk (below_step HB.out hb); clear HB hb; have HB := b_HB; clear b_HB)
    | ((with_reducible refine gate_callee (f := 8) rfl ?_); refine goesL_ (some 13) rfl rfl Try.func8 (by kernel_rfl) rfl #[.slice A l.length c] rfl (by (try simp only [List.map_toArray, List.map_cons, List.map_nil]); first | done | rfl) ?_; go_loud (refine (winnowerlaw18_few.calls (l.length + 1) A c l true _ (Kd.C_below HR.out HB.out) HC.out HF.out).mono ?_); rintro e w2 ⟨rfl, hd⟩; refine ⟨_, rfl, ?_⟩; have hb := hd.below; clear hd; have b_HB := Aside0.mk (below_step HB.out hb); clear HB hb; have HB := b_HB; clear b_HB)
    | ((with_reducible refine gate_callee (f := 9) rfl ?_); refine goesL_ (some 24) rfl rfl Try.func9 (by kernel_rfl) rfl #[.int .i64 fn, .slice A l.length c] rfl (by (try simp only [List.map_toArray, List.map_cons, List.map_nil]); first | done | rfl) ?_; go_loud (refine (winnowerlaw18_told.calls fn l A c r er _ (Kd.C_below HR.out HB.out) HL.out HO.out HT.out).mono ?_); rintro e w3 ⟨rfl, hb⟩; refine ⟨_, rfl, ?_⟩; have b_HB := Aside0.mk (below_step HB.out hb); clear HB hb; have HB := b_HB; clear b_HB)
    | ((with_reducible refine gate_dst (N := 7) rfl ?_); refine box_event ?hg (N := 7) ?hd (cs := #[.int .i64 0, .int .i64 0, .string ⟨#[]⟩, .bool false]) (t := 26) ?hr ?_; (case hd => rfl); (case hg => rfl); (case hr => first | (go_simp; done) | (go_simp; rfl)); intro g7 hg w4 hbox hb; have B7 := Aside0.mk hbox; have GEB7 := Aside0.mk ((by rw [hg]; exact (below_size HB.out)) : w.heap.size ≤ g7); have b_HB := Aside0.mk (below_step HB.out hb); clear HB; have HB := b_HB; clear b_HB; clear hbox hg hb)
    | ((with_reducible refine gate_ (.store 26 (.tmp 7) (.tmp 25)) rfl ?_); go_loud (refine wpList_storeR rfl rfl 26 (.tmp 7) (.tmp 25) rfl g7 (0) rfl (.agg (vc r)) rfl (vc r).toList rfl #[.int .i64 0, .int .i64 0, .string ⟨#[]⟩, .bool false] 26 B7.out size26 (by simp) (by simp [Value.oneCell']) (vc r) rfl ?_); intro w5 hs st; have b_HB := Aside0.mk (Step.fresh st HB.out GEB7.out); clear HB; have HB := b_HB; clear b_HB; clear B7; have B7 := Aside0.mk hs; clear hs st)
    | ((with_reducible refine gate_callee (f := 10) rfl ?_); refine goesL_ (some 43) rfl rfl Try.func10 (by kernel_rfl) rfl #[.int .i64 fn, .slice A l.length c] rfl (by (try simp only [List.map_toArray, List.map_cons, List.map_nil]); first | done | rfl) ?_; go_loud (refine (winnowerref18_Value.calls 11000 fn A c l _ _ _ _ _ _ (Kd.C_below HR.out HB.out) HC.out HV.out).mono ?_); rintro e w6 ⟨rfl, hb⟩; refine ⟨_, rfl, ?_⟩; have b_B7 := Aside0.mk (blk_below B7.out hb); have b_HB := Aside0.mk (below_step HB.out hb); clear HB B7; have HB := b_HB; have B7 := b_B7; clear b_HB b_B7; clear hb)
    | ((with_reducible refine gate_dst (N := 9) rfl ?_); refine box_event ?hg (N := 9) ?hd (cs := #[.int .i64 0, .int .i64 0, .string ⟨#[]⟩, .bool false]) (t := 26) ?hr ?_; (case hd => rfl); (case hg => rfl); (case hr => first | (go_simp; done) | (go_simp; rfl)); intro g9 hg w7 hbox hb; have B9 := Aside0.mk hbox; have GEB9 := Aside0.mk ((by rw [hg]; exact (below_size HB.out)) : w.heap.size ≤ g9); have NB7B9 := Aside0.mk ((by rw [hg]; exact Nat.ne_of_lt (blk_lt B7.out)) : g7 ≠ g9); have b_B7 := Aside0.mk (blk_below B7.out hb); have b_HB := Aside0.mk (below_step HB.out hb); clear HB B7; have HB := b_HB; have B7 := b_B7; clear b_HB b_B7; clear hbox hg hb)
    | ((with_reducible refine gate_ (.store 26 (.tmp 9) (.tmp 44)) rfl ?_); go_loud (refine wpList_storeR rfl rfl 26 (.tmp 9) (.tmp 44) rfl g9 (0) rfl (.agg (vc r)) rfl (vc r).toList rfl #[.int .i64 0, .int .i64 0, .string ⟨#[]⟩, .bool false] 26 B9.out size26 (by simp) (by simp [Value.oneCell']) (vc r) rfl ?_); intro w8 hs st; have b_B7 := Aside0.mk (Step.blk st B7.out (NB7B9.out)); have b_HB := Aside0.mk (Step.fresh st HB.out GEB9.out); clear HB B7; have HB := b_HB; have B7 := b_B7; clear b_HB b_B7; clear B9; have B9 := Aside0.mk hs; clear hs st)
    | ((with_reducible refine gate_dst (N := 46) rfl ?_); go_loud (refine wpList_load_row rfl 26 (.tmp 7) rfl g7 rfl 26 (vc r) (0, 0) _ B7.out Try.underlying26 rfl size26 ?_))
    | ((with_reducible refine gate_dst (N := 47) rfl ?_); go_loud (refine wpList_load_row rfl 26 (.tmp 9) rfl g9 rfl 26 (vc r) (0, 0) _ B9.out Try.underlying26 rfl size26 ?_)))
  go_ret
  exact ⟨rfl, HB.out⟩
theorem winnowerlaw18_AggTells.calls (fn : Int) (l : List S26) (A : Option Addr) (c : Nat) (w : World) (hr : Kd.C k26 w A l.length l) (hc : l.length ≤ c) (ho : okI l) :
    Calls Try.prog 3 #[.int .i64 fn, .slice A l.length c] w fun e w' => e = .returned (.bool true) ∧ Below w.heap.size w w' := by
  cases hf : fewS l with
  | false => exact winnowerlaw18_AggTells.no_ fn l A c w hr hc ho hf
  | true =>
    by_cases hfn : fn < 1 ∨ 6 ≤ fn
    · by_cases h1 : fn < 1
      · exact winnowerlaw18_AggTells.bad1 fn l A c w hr hc ho hf (decide_eq_true h1)
      · exact winnowerlaw18_AggTells.bad2 fn l A c w hr hc ho hf (decide_eq_false h1) (decide_eq_true (by omega))
    · exact winnowerlaw18_AggTells.ok_ fn l A c w hr hc ho hf (by omega) (by omega) _ _ rfl

end Go.Proofs.Ytgjmpancofjjbaa.Q
