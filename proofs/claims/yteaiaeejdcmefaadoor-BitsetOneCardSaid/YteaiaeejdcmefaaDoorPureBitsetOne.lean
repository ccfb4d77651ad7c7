/- Statement BitsetOne: with one more it has that, and all it had; without one it has all but that; what may not be in a set changes nothing; no condition but that the library's table is laid as its text lays it (the card ties it). -/
import Derived.Test.YteaiaeejdcmefaaDoorSx18
import Derived.Test.YteaiaeejdcmefaaDoorHbitset
import Derived.Test.YteaiaeejdcmefaaDoorHset09S
namespace Go.Proofs.YteaiaeejdcmefaaDoor.Pure
set_option linter.unusedVariables false
set_option linter.unusedSimpArgs false
open Go.RowKit Go.Proofs.YteaiaeejdcmefaaDoor.S Go.Proofs.YteaiaeejdcmefaaDoor.Hbitset Go.Proofs.YteaiaeejdcmefaaDoorW.PrintWords Go.Proofs.YteaiaeejdcmefaaDoorW.PrintLast
theorem elems_none (n : Nat) {p : Nat → Bool} (h : ∀ i, p i = false) : elems n p = [] := List.filter_eq_nil_iff.2 fun i _ => by rw [h i]; decide
theorem elems_le (n : Nat) (p : Nat → Bool) : (elems n p).length ≤ n := by
  have := List.length_filter_le p (List.range n)
  rwa [List.length_range] at this
theorem elems_cnt (n : Nat) (p q : Nat → Bool) : (elems n fun x => p x && q x).length + (elems n fun x => p x || q x).length = (elems n p).length + (elems n q).length := filter_len p q (List.range n)
theorem elems_one (n : Nat) : ∀ N, (elems N fun i => decide (i = n)).length = if n < N then 1 else 0
  | 0 => rfl
  | N + 1 => by
    have ih := elems_one n N
    unfold elems at ih ⊢
    rw [List.range_succ, List.filter_append, List.length_append, ih]
    by_cases h : N = n
    · subst h
      simp
    · have e : [N].filter (fun i => decide (i = n)) = [] := by rw [List.filter_cons, decide_eq_false h, if_neg Bool.false_ne_true, List.filter_nil]
      rw [e, List.length_nil, Nat.add_zero]
      by_cases h2 : n < N
      · rw [if_pos h2, if_pos (by omega)]
      · rw [if_neg h2, if_neg (by omega)]
theorem dne' {x a : Int} (h : ¬ x = a) : decide (x ≠ a) = true := by simp [h]
theorem dne {x a : Int} (h : x = a) : decide (x ≠ a) = false := by subst h; simp
theorem elems_add {N n : Nat} {p q : Nat → Bool} (hn : n < N) (hp : p n = false) (hq : ∀ i, q i = (p i || decide (i = n))) : (elems N q).length = (elems N p).length + 1 := by
  have h := elems_cnt N p fun i => decide (i = n)
  rw [elems_one, if_pos hn, elems_none N (fun i => by
    by_cases e : i = n
    · subst e; rw [hp]; rfl
    · rw [decide_eq_false e, Bool.and_false]), elems_congr (q := q) (fun i _ => (hq i).symm)] at h
  simpa using h
theorem hasL_with {s : List Int} (h : Bs s) (a : Int) : hasL (withL s a) a = decide (0 ≤ a ∧ a < 65536) := by
  unfold hasL
  by_cases ha : 0 ≤ a ∧ a < 65536
  · rw [decide_eq_true ha, Bool.true_and, withL_bit h, decide_eq_true ⟨ha, by omega⟩, Bool.or_true]
  · rw [decide_eq_false ha, Bool.false_and]
theorem hasL_without {s : List Int} (h : Bs s) (a : Int) : hasL (withoutL s a) a = false := by
  unfold hasL
  by_cases ha : 0 ≤ a ∧ a < 65536
  · rw [decide_eq_true ha, Bool.true_and, withoutL_bit h, dne (by omega), Bool.and_false]
  · rw [decide_eq_false ha, Bool.false_and]
theorem hasL_with_other {s : List Int} (h : Bs s) {a b : Int} (e : a ≠ b) : hasL (withL s a) b = hasL s b := by
  unfold hasL
  by_cases hb : 0 ≤ b ∧ b < 65536
  · rw [decide_eq_true hb, Bool.true_and, Bool.true_and, withL_bit h, decide_eq_false (fun x => e (by omega)), Bool.or_false]
  · rw [decide_eq_false hb, Bool.false_and, Bool.false_and]
theorem hasL_without_other {s : List Int} (h : Bs s) {a b : Int} (e : a ≠ b) : hasL (withoutL s a) b = hasL s b := by
  unfold hasL
  by_cases hb : 0 ≤ b ∧ b < 65536
  · rw [decide_eq_true hb, Bool.true_and, Bool.true_and, withoutL_bit h, dne' (by omega), Bool.and_true]
  · rw [decide_eq_false hb, Bool.false_and, Bool.false_and]
theorem cnt_with {s : List Int} (h : Bs s) (a : Int) : (elems 65536 (bit (withL s a))).length = (elems 65536 (bit s)).length + (if (0 ≤ a ∧ a < 65536) ∧ hasL s a = false then 1 else 0) := by
  by_cases ha : 0 ≤ a ∧ a < 65536
  · obtain ⟨n, rfl⟩ := Int.eq_ofNat_of_zero_le ha.1
    have hb : hasL s (n : Int) = bit s n := by unfold hasL; rw [decide_eq_true ha, Bool.true_and]; rfl
    rw [hb]
    cases hn : bit s n with
    | false =>
      rw [if_pos ⟨ha, rfl⟩]
      exact elems_add (by omega) hn fun i => by rw [withL_bit h]; refine congrArg (fun z => bit s i || z) (decide_eq_decide.2 ⟨fun e => by omega, fun e => ⟨ha, by omega⟩⟩)
    | true =>
      rw [if_neg (fun e => by cases e.2), elems_congr (q := bit s) (fun i _ => by
        rw [withL_bit h]
        by_cases e : i = n
        · subst e; rw [hn]; rfl
        · rw [decide_eq_false (fun x => e (by omega)), Bool.or_false]), Nat.add_zero]
  · rw [if_neg (fun e => ha e.1), elems_congr (q := bit s) (fun i _ => by rw [withL_bit h, decide_eq_false (fun x => ha x.1), Bool.or_false]), Nat.add_zero]
theorem cnt_without {s : List Int} (h : Bs s) (a : Int) : (elems 65536 (bit s)).length = (elems 65536 (bit (withoutL s a))).length + (if hasL s a = true then 1 else 0) := by
  by_cases hh : hasL s a = true
  · obtain ⟨ha, hb, _⟩ := hasL_at hh
    obtain ⟨n, rfl⟩ := Int.eq_ofNat_of_zero_le ha.1
    rw [Int.toNat_natCast] at hb
    rw [if_pos hh]
    refine elems_add (n := n) (by omega) (by rw [withoutL_bit h, dne rfl, Bool.and_false]) fun i => ?_
    rw [withoutL_bit h]
    by_cases e : i = n
    · subst e; rw [hb, decide_eq_true rfl, Bool.or_true]
    · rw [decide_eq_false e, dne' (by omega), Bool.and_true, Bool.or_false]
  · rw [if_neg hh, withoutL, if_neg hh, Nat.add_zero]
theorem j5_ok {s : List Int} (h : Bs s) (a : Int) {k : Nat} (hk : 2001 < k) : winnowerlaw09_BitsetOne.j5 k (if (0 ≤ a ∧ a < 65536) ∧ hasL s a = false then 1 else 0) (if hasL s a = true then 1 else 0) s (withL s a) (withoutL s a) = some true := by
  obtain ⟨k, rfl⟩ : ∃ m, k = m + 1 := ⟨k - 1, by omega⟩
  have c1 := cnt_with h a
  have c2 := cnt_without h a
  have b1 := elems_le 65536 (bit s)
  rw [winnowerlaw09_BitsetOne.j5, count_tell (withL_ok h a) (by omega), Option.bind_some, count_tell h (by omega), Option.bind_some, count_tell (withoutL_ok h a) (by omega)]
  obtain ⟨x, hx⟩ : ∃ x, (elems 65536 (bit s)).length = x := ⟨_, rfl⟩
  obtain ⟨y, hy⟩ : ∃ x, (elems 65536 (bit (withL s a))).length = x := ⟨_, rfl⟩
  obtain ⟨z, hz⟩ : ∃ x, (elems 65536 (bit (withoutL s a))).length = x := ⟨_, rfl⟩
  rw [hx, hy] at c1
  rw [hx, hz] at c2
  rw [hx] at b1
  rw [hx, hy, hz]
  clear hx hy hz
  have e1 : (y : Int) = wrap64 ((x : Int) + (if (0 ≤ a ∧ a < 65536) ∧ hasL s a = false then 1 else 0)) := by
    unfold wrap64
    split at c1 <;> split <;> first | omega | contradiction
  have e2 : (z : Int) = wrap64 ((x : Int) - (if hasL s a = true then 1 else 0)) := by
    unfold wrap64
    split at c2 <;> split <;> first | omega | contradiction
  rw [if_pos e1, Option.bind_some, Option.bind_some, ← e2]
  exact congrArg some (beq_self_eq_true _)
theorem j4_ok {s : List Int} (h : Bs s) (a : Int) {k : Nat} (hk : 2002 < k) : winnowerlaw09_BitsetOne.j4 k a (if (0 ≤ a ∧ a < 65536) ∧ hasL s a = false then 1 else 0) s (withL s a) (withoutL s a) = some true := by
  obtain ⟨k, rfl⟩ : ∃ m, k = m + 1 := ⟨k - 1, by omega⟩
  have h5 := j5_ok h a (k := k) (by omega)
  rw [winnowerlaw09_BitsetOne.j4, has_tell h.1, Option.bind_some]
  by_cases hh : hasL s a = true
  · rw [if_pos hh] at h5 ⊢; exact h5
  · rw [if_neg hh] at h5 ⊢; exact h5
theorem j2_ok {s : List Int} (h : Bs s) (a : Int) {k : Nat} (hk : 2004 < k) : winnowerlaw09_BitsetOne.j2 k a (decide (0 ≤ a ∧ a < 65536)) false s (withL s a) (withoutL s a) = some true := by
  obtain ⟨k, rfl⟩ : ∃ m, k = m + 1 + 1 := ⟨k - 2, by omega⟩
  have h4 := j4_ok h a (k := k) (by omega)
  rw [winnowerlaw09_BitsetOne.j2, if_neg Bool.false_ne_true]
  by_cases ha : 0 ≤ a ∧ a < 65536
  · rw [decide_eq_true ha, if_pos rfl, has_tell h.1, Option.bind_some, winnowerlaw09_BitsetOne.j3]
    cases hh : hasL s a with
    | false => rw [if_pos ⟨ha, hh⟩] at h4; exact h4
    | true => rw [if_neg (fun e => by rw [hh] at e; cases e.2)] at h4; exact h4
  · rw [decide_eq_false ha, if_neg Bool.false_ne_true, winnowerlaw09_BitsetOne.j3, if_neg Bool.false_ne_true]
    rw [if_neg (fun e => ha e.1)] at h4
    exact h4
theorem j1_ok {s : List Int} (h : Bs s) (a b : Int) {k : Nat} (hk : 2006 < k) : winnowerlaw09_BitsetOne.j1 k a b (decide (0 ≤ a ∧ a < 65536)) s = some true := by
  obtain ⟨k, rfl⟩ : ∃ m, k = m + 1 := ⟨k - 1, by omega⟩
  have h2 := j2_ok h a (k := k) (by omega)
  rw [winnowerlaw09_BitsetOne.j1, with_tell h a (by omega), Option.bind_some, without_tell h, Option.bind_some, has_tell (withL_ok h a).1, Option.bind_some, hasL_with h, if_neg (by simp), has_tell (withoutL_ok h a).1, Option.bind_some, hasL_without h, if_neg Bool.false_ne_true]
  by_cases e : a = b
  · rw [if_pos e]; exact h2
  · rw [if_neg e, has_tell (withL_ok h a).1, Option.bind_some, hasL_with_other h e, has_tell h.1, Option.bind_some, if_neg (by simp), has_tell (withoutL_ok h a).1, Option.bind_some, Option.bind_some, hasL_without_other h e, bne_self_eq_false]
    exact h2
theorem BitsetOne : winnowerlaw09_BitsetOne.Pure := by
  intro l0 a b _ _ _ _ _
  obtain ⟨k, hk⟩ : ∃ k, k = 5000 := ⟨_, rfl⟩
  refine ⟨k + 1, ?_⟩
  unfold winnowerlaw09_BitsetOne.f
  rw [awake09 (by omega), Option.bind_some, if_pos rfl, winnowerlaw09_BitsetOne.j0]
  by_cases h0 : (l0.length : Int) > 60
  · rw [decide_eq_true h0, if_pos rfl]
  · rw [decide_eq_false h0, if_neg Bool.false_ne_true, bitset_Of.f, Option.bind_some]
    have h1 := j1_ok (ofL_ok0 l0) a b (k := k) (by omega)
    by_cases ha : a ≥ 0
    · rw [if_pos ha]
      rw [show decide (0 ≤ a ∧ a < 65536) = decide (a < 65536) from decide_eq_decide.2 ⟨fun h => h.2, fun h => ⟨ha, h⟩⟩] at h1
      exact h1
    · rw [if_neg ha]
      rw [decide_eq_false (fun h => ha h.1)] at h1
      exact h1
end Go.Proofs.YteaiaeejdcmefaaDoor.Pure
