/- Chapter 18: what values come to, in plain words. -/
import Derived.Laws.Rows
import Derived.Deep.MidRow
import Derived.Deep.WholeRow
import Derived.Deep.RegionHeld3
import Derived.Deep.RegionLaw
import Derived.Test.YtgjmpancofjjbaaHstep
import Derived.Test.YtgjmpancofjjbaaHmapint
import Derived.Test.YtgjmpancofjjbaaHnum
import Derived.Test.YtgjmpancofjjbaaHval
import Derived.Test.YtgjmpancofjjbaaHvalord
import Derived.Test.YtgjmpancofjjbaaHagg18
import Derived.Test.YtgjmpancofjjbaaQx0
import Derived.Test.YtgjmpancofjjbaaQx4
import Derived.Test.YtgjmpancofjjbaaQx5
namespace Go.Proofs.Ytgjmpancofjjbaa.Q
open Go.RowKit Go.Proofs.YtgjmpancofjjbaaW.PrintWords Go.Proofs.YtgjmpancofjjbaaW.PrintLast Go.Proofs.YtgjmpancofjjbaaW.PrintMore
attribute [local go_sem] max2_int min2_int max_two min_two max_three min_three max_four min_four   -- for this text's walks alone
set_option linter.unusedVariables false
set_option linter.unusedSimpArgs false

-- SAYS Chapter 18: what values come to, in plain words.
-- FUNCS winnower/winnowerlaw18.few
-- NEEDS winnowerlaw18_few.calls
-- IMPORT Derived.Laws.Rows
-- IMPORT Derived.Deep.MidRow
-- IMPORT Derived.Deep.WholeRow
-- IMPORT Derived.Deep.RegionHeld3
-- IMPORT Derived.Deep.RegionLaw
-- IMPORT Derived.Test.YtgjmpancofjjbaaHstep
-- IMPORT Derived.Test.YtgjmpancofjjbaaHmapint
-- IMPORT Derived.Test.YtgjmpancofjjbaaHnum
-- IMPORT Derived.Test.YtgjmpancofjjbaaHval
-- IMPORT Derived.Test.YtgjmpancofjjbaaHvalord
-- IMPORT Derived.Test.YtgjmpancofjjbaaHagg18
open Go.Proofs.Ytgjmpancofjjbaa.Hstep Go.Proofs.Ytgjmpancofjjbaa.Hmapint Go.Proofs.Ytgjmpancofjjbaa.Hnum Go.Proofs.Ytgjmpancofjjbaa.Hval
attribute [local go_sem high] eqV_
theorem rd26_at {l : List S26} {i : Nat} (h : i < l.length) : rd_T26 l (i : Int) = l[i] := by
  unfold rd_T26
  rw [Int.toNat_natCast, List.getD_eq_getElem?_getD, List.getElem?_eq_getElem h]
  rfl
/-- few: at most 100 values, of texts of at most 300 bytes. -/
def fewS (l : List S26) : Bool := decide (l.length ≤ 100) && l.all fun x => decide (x.f2.size ≤ 300)
theorem few_go {l : List S26} (hl : l.length ≤ 100) (q : Nat) : ∀ (d i : Nat), i + d = l.length → winnowerlaw18_few.l0 (d + q + 1) l (i : Int) = some ((l.drop i).all fun x => decide (x.f2.size ≤ 300)) := by
  intro d
  induction d with
  | zero => intro i h; rw [winnowerlaw18_few.l0, if_neg (by omega), List.drop_of_length_le (by omega)]; rfl
  | succ d ih =>
    intro i h
    have hlt : i < l.length := by omega
    have hh := ih (i + 1) (by omega)
    rw [show d + 1 + q + 1 = (d + q + 1) + 1 from by omega, winnowerlaw18_few.l0, if_pos (by omega), if_pos (by omega), rd26_at hlt, wrap_id (x := (i : Int) + 1) (by omega) (by omega), List.drop_eq_getElem_cons hlt, List.all_cons]
    by_cases hs : (l[i].f2).size ≤ 300
    · rw [if_neg (by omega), decide_eq_true hs, Bool.true_and, ← hh, show (i : Int) + 1 = ((i + 1 : Nat) : Int) by omega]
    · rw [if_pos (by omega), decide_eq_false hs, Bool.false_and]
theorem few_tell (l : List S26) : winnowerlaw18_few.f (l.length + 1) l = some (fewS l) := by
  unfold winnowerlaw18_few.f fewS
  by_cases hl : l.length ≤ 100
  · rw [if_neg (by omega), decide_eq_true hl, Bool.true_and]
    exact few_go hl 0 l.length 0 (by omega)
  · rw [if_pos (by omega), decide_eq_false hl, Bool.false_and]
def mv_ (x : S26) : Bool := V.may ⟨x.f0, x.f1, x.f2, x.f3⟩
/-- Does a value count? -/
def own1 (fn : Int) (x : S26) : Bool := mv_ x && (decide (x.f0 ≠ 0) && (decide (fn ≠ 2) || decide (x.f0 = 1)))
def ownS (fn : Int) (l : List S26) : List S26 := l.filter (own1 fn)
theorem ownS_len (fn : Int) (l : List S26) : (ownS fn l).length ≤ l.length := List.length_filter_le _ _
theorem eqb_symm (u v : S26) : eqb u v = eqb v u := by
  rw [Bool.eq_iff_iff, eqb_iff, eqb_iff]
  exact eq_comm
theorem findV_cons (v u : S26) (t : List S26) (i : Nat) : findV v (u :: t) i = if eqb v u = true then some i else findV v t (i + 1) := rfl
theorem addV_len (l : List S26) (v : S26) : (addV l v).length ≤ l.length + 1 := by
  unfold addV
  split
  · rw [List.length_append]; exact Nat.le_refl _
  · omega
def pick (fn : Int) (b x : S26) : S26 := if (fn = 3 ∧ ov x b < 0) ∨ (fn = 4 ∧ 0 < ov x b) then x else b
def bestS (fn : Int) : List S26 → S26
  | [] => z26
  | x :: t => t.foldl (pick fn) x
def inR (x : Int) : Prop := -9223372036854775808 ≤ x ∧ x ≤ 9223372036854775807
instance (x : Int) : Decidable (inR x) := by unfold inR; infer_instance
def tsum : List Int → Int
  | [] => 0
  | x :: t => x + tsum t
theorem tsum_app : ∀ a b : List Int, tsum (a ++ b) = tsum a + tsum b
  | [], b => by simp [tsum]
  | x :: t, b => by rw [List.cons_append, tsum, tsum, tsum_app t b]; omega
theorem wrap1 {n : Int} (h0 : 0 ≤ n) (h1 : n ≤ 1000000) : wrap64 (n + 1) = n + 1 := wrapI (by omega) (by omega)
theorem takeS_own {fn : Int} {s : Acc18} (hf : s.fn = fn) (x : S26) : takeS s x = if own1 fn x = true then addS s x else s := by
  unfold takeS own1
  have hmv : mv_ x = mv x := rfl
  rw [hmv]
  by_cases hm : mv x = true
  · by_cases h0 : x.f0 = 0
    · rw [if_neg (by rintro ⟨_, h⟩; exact h h0), if_neg (by simp [h0])]
    · rw [if_pos ⟨hm, h0⟩]
      by_cases h2 : fn = 2
      · by_cases h3 : x.f0 = 1
        · rw [if_pos (by simp [hm, h3])]
        · rw [if_neg (by simp [h2, h3])]
          unfold addS
          rw [if_neg (by omega), if_pos (by omega), if_neg h3]
      · rw [if_pos (by simp [hm, h0, h2])]
  · rw [if_neg (by rintro ⟨h, _⟩; exact hm h), if_neg (by simp [hm])]
theorem fold_own {fn : Int} : ∀ (l : List S26) (s : Acc18), s.fn = fn → l.foldl takeS s = (ownS fn l).foldl addS s
  | [], s, _ => rfl
  | x :: t, s, h => by
    have hS : ownS fn (x :: t) = if own1 fn x = true then x :: ownS fn t else ownS fn t := by unfold ownS; rw [List.filter_cons]
    rw [hS, List.foldl_cons, takeS_own h]
    by_cases hc : own1 fn x = true
    · rw [if_pos hc, if_pos hc, List.foldl_cons]
      exact fold_own t (addS s x) ((addS_fn s x).trans h)
    · rw [if_neg hc, if_neg hc, fold_own t s h]
theorem fold_1 : ∀ (l : List S26) (s : Acc18), s.fn = 1 → 0 ≤ s.n → s.n + l.length ≤ 1000000 → (l.foldl addS s).n = s.n + l.length
  | [], s, _, _, _ => by simp
  | x :: t, s, h, h0, h1 => by
    simp only [List.length_cons] at h1 ⊢
    have e : addS s x = { s with n := s.n + 1 } := by
      unfold addS
      rw [if_pos h, wrap1 h0 (by omega)]
    rw [List.foldl_cons, e, fold_1 t { s with n := s.n + 1 } h (by show 0 ≤ s.n + 1; omega) (by show s.n + 1 + (t.length : Int) ≤ 1000000; omega)]
    show s.n + 1 + (t.length : Int) = _
    omega
theorem fold_2 : ∀ (l : List S26) (s : Acc18), s.fn = 2 → (∀ x ∈ l, x.f0 = 1) → 0 ≤ s.n → s.n + l.length ≤ 1000000 → (l.foldl addS s).n = s.n + l.length ∧ (l.foldl addS s).tot = s.tot + tsum (l.map (·.f1))
  | [], s, _, _, _, _ => by simp [tsum]
  | x :: t, s, h, hk, h0, h1 => by
    simp only [List.length_cons] at h1 ⊢
    have e : addS s x = { s with n := s.n + 1, tot := s.tot + x.f1 } := by
      unfold addS
      rw [if_neg (by omega), if_pos h, if_pos (hk x (List.mem_cons_self ..)), wrap1 h0 (by omega)]
    obtain ⟨a, b⟩ := fold_2 t { s with n := s.n + 1, tot := s.tot + x.f1 } h (fun y hy => hk y (List.mem_cons_of_mem _ hy)) (by show 0 ≤ s.n + 1; omega) (by show s.n + 1 + (t.length : Int) ≤ 1000000; omega)
    rw [List.foldl_cons, e, a, b, List.map_cons, tsum]
    constructor
    · show s.n + 1 + (t.length : Int) = _
      omega
    · show s.tot + x.f1 + _ = _
      omega
theorem fold_5 : ∀ (l : List S26) (s : Acc18), s.fn = 5 → (l.foldl addS s).seen = l.foldl addV s.seen
  | [], s, _ => rfl
  | x :: t, s, h => by
    have e : addS s x = { s with seen := addV s.seen x } := by
      unfold addS
      rw [if_neg (by omega), if_neg (by omega), if_pos h]
    rw [List.foldl_cons, List.foldl_cons, e, fold_5 t { s with seen := addV s.seen x } h]
theorem addS_34 {s : Acc18} (h : s.fn = 3 ∨ s.fn = 4) (x : S26) : addS s x = { s with n := wrap64 (s.n + 1), lo := if s.n = 0 ∨ ov x s.lo < 0 then x else s.lo, hi := if s.n = 0 ∨ 0 < ov x s.hi then x else s.hi } := by
  unfold addS
  rw [if_neg (by omega), if_neg (by omega), if_neg (by omega)]
theorem fold_34 : ∀ (l : List S26) (s : Acc18), (s.fn = 3 ∨ s.fn = 4) → 1 ≤ s.n → s.n + l.length ≤ 1000000 → (l.foldl addS s).lo = l.foldl (pick 3) s.lo ∧ (l.foldl addS s).hi = l.foldl (pick 4) s.hi
  | [], s, _, _, _ => ⟨rfl, rfl⟩
  | x :: t, s, h, h0, h1 => by
    simp only [List.length_cons] at h1
    have el : (if s.n = 0 ∨ ov x s.lo < 0 then x else s.lo) = pick 3 s.lo x := by
      unfold pick
      by_cases hc : ov x s.lo < 0
      · rw [if_pos (.inr hc), if_pos (.inl ⟨rfl, hc⟩)]
      · rw [if_neg (by omega), if_neg (by omega)]
    have eh : (if s.n = 0 ∨ 0 < ov x s.hi then x else s.hi) = pick 4 s.hi x := by
      unfold pick
      by_cases hc : 0 < ov x s.hi
      · rw [if_pos (.inr hc), if_pos (.inr ⟨rfl, hc⟩)]
      · rw [if_neg (by omega), if_neg (by omega)]
    rw [List.foldl_cons, List.foldl_cons, List.foldl_cons, addS_34 h, wrap1 (by omega) (by omega), el, eh]
    exact fold_34 t { s with n := s.n + 1, lo := pick 3 s.lo x, hi := pick 4 s.hi x } h (by show 1 ≤ s.n + 1; omega) (by show s.n + 1 + (t.length : Int) ≤ 1000000; omega)
theorem best_34 (fn : Int) (h : fn = 3 ∨ fn = 4) (l : List S26) (hl : l.length ≤ 1000) : (l.foldl addS (new18 fn)).lo = bestS 3 l ∧ (l.foldl addS (new18 fn)).hi = bestS 4 l := by
  cases l with
  | nil => exact ⟨rfl, rfl⟩
  | cons x t =>
    simp only [List.length_cons] at hl
    have e : addS (new18 fn) x = { new18 fn with n := 1, lo := x, hi := x } := by
      rw [addS_34 (s := new18 fn) h]
      have e1 : (new18 fn).n = 0 := rfl
      rw [e1, if_pos (.inl rfl), if_pos (.inl rfl), show wrap64 (0 + 1) = 1 by unfold wrap64; decide]
    rw [List.foldl_cons, e]
    exact fold_34 t { new18 fn with n := 1, lo := x, hi := x } h (by show (1 : Int) ≤ 1; omega) (by show (1 : Int) + (t.length : Int) ≤ 1000000; omega)
theorem best_neg {fn : Int} (h : fn ≠ 3 ∧ fn ≠ 4) : ∀ (l : List S26) (b : S26), l.foldl (pick fn) b = b
  | [], _ => rfl
  | x :: t, b => by
    rw [List.foldl_cons, show pick fn b x = b from if_neg (by omega)]
    exact best_neg h t b
/-- What values come to, of those that count. -/
theorem toldS_own {fn : Int} (h1 : 1 ≤ fn) (h2 : fn < 6) {l : List S26} (hl : l.length ≤ 1000) : toldS fn l =
    if fn = 1 then (num26 (ownS 1 l).length, 0)
    else if fn = 2 then (if (ownS 2 l).length = 0 then (z26, 0) else if inR (tsum ((ownS 2 l).map (·.f1))) then (num26 (tsum ((ownS 2 l).map (·.f1))), 0) else (z26, 10))
    else if fn = 3 then (bestS 3 (ownS 3 l), 0) else if fn = 4 then (bestS 4 (ownS 4 l), 0)
    else (num26 ((ownS 5 l).foldl addV []).length, 0) := by
  have hO := ownS_len fn l
  unfold toldS
  rw [if_neg (by omega), fold_own (fn := fn) l (new18 fn) rfl]
  have hfn : ((ownS fn l).foldl addS (new18 fn)).fn = fn := by
    have := fold_fn (new18 fn) l
    rw [fold_own (fn := fn) l (new18 fn) rfl] at this
    exact this
  unfold valS
  rw [hfn]
  by_cases k1 : fn = 1
  · subst k1
    rw [if_pos rfl, if_pos rfl, fold_1 (ownS 1 l) (new18 1) rfl (by decide) (by show (0 : Int) + _ ≤ _; omega)]
    show (num26 (0 + ((ownS 1 l).length : Int)), _) = _
    rw [Int.zero_add]
  · rw [if_neg k1, if_neg k1]
    by_cases k2 : fn = 2
    · subst k2
      have hk : ∀ x ∈ ownS 2 l, x.f0 = 1 := fun x hx => by
        have := (List.mem_filter.1 hx).2
        unfold own1 at this
        simp only [ne_eq, not_true_eq_false, decide_false, Bool.false_or, Bool.and_eq_true, decide_eq_true_eq] at this
        exact this.2.2
      obtain ⟨a, b⟩ := fold_2 (ownS 2 l) (new18 2) rfl hk (by decide) (by show (0 : Int) + _ ≤ _; omega)
      rw [if_pos rfl, if_pos rfl, a, b]
      show (if (0 : Int) + ((ownS 2 l).length : Int) = 0 then _ else if -9223372036854775808 ≤ (0 : Int) + _ ∧ (0 : Int) + _ ≤ _ then (num26 ((0 : Int) + _), _) else _) = _
      rw [Int.zero_add, Int.zero_add]
      by_cases h0 : (ownS 2 l).length = 0
      · rw [if_pos (by omega), if_pos h0]
      · rw [if_neg (by omega), if_neg h0]
        rfl
    · rw [if_neg k2, if_neg k2]
      by_cases k3 : fn = 3
      · subst k3
        rw [if_pos rfl, if_pos rfl, (best_34 3 (.inl rfl) (ownS 3 l) (by omega)).1]
      · rw [if_neg k3, if_neg k3]
        by_cases k4 : fn = 4
        · subst k4
          rw [if_pos rfl, if_pos rfl, (best_34 4 (.inr rfl) (ownS 4 l) (by omega)).2]
        · have k5 : fn = 5 := by omega
          subst k5
          rw [if_neg k4, if_neg k4, fold_5 (ownS 5 l) (new18 5) rfl]
          rfl
theorem few_len {l : List S26} (h : fewS l = true) : l.length ≤ 100 ∧ ∀ x ∈ l, x.f2.size ≤ 300 := by
  unfold fewS at h
  rw [Bool.and_eq_true, decide_eq_true_eq, List.all_eq_true] at h
  exact ⟨h.1, fun x hx => of_decide_eq_true (h.2 x hx)⟩

end Go.Proofs.Ytgjmpancofjjbaa.Q
