/- What the document's layer 9 answers, in plain words. -/
import Derived.Test.YteaiaeejdcmefaaDoorHbitset
import Derived.Test.YteaiaeejdcmefaaDoorHset09T
import Derived.Test.YteaiaeejdcmefaaDoorTx0
import Derived.Test.YteaiaeejdcmefaaDoorTx3
import Derived.Test.YteaiaeejdcmefaaDoorTx5
import Derived.Test.YteaiaeejdcmefaaDoorTx11
import Derived.Test.YteaiaeejdcmefaaDoorTx17
import Derived.Test.YteaiaeejdcmefaaDoorTx18
import Derived.Test.YteaiaeejdcmefaaDoorTx19
import Derived.Test.YteaiaeejdcmefaaDoorTx20
namespace Go.Proofs.YteaiaeejdcmefaaDoor.T
open Go.RowKit Go.Proofs.YteaiaeejdcmefaaDoorW.PrintWords Go.Proofs.YteaiaeejdcmefaaDoorW.PrintLast Go.Proofs.YteaiaeejdcmefaaDoorW.PrintMore
attribute [local go_sem] max2_int min2_int max_two min_two max_three min_three max_four min_four   -- for this text's walks alone
set_option linter.unusedVariables false
set_option linter.unusedSimpArgs false

-- SAYS What the document's layer 9 answers, in plain words.
-- FUNCS winnower/winnowerref09.Of winnower/winnowerref09.Or
-- NEEDS winnowerref09_Of.f winnowerref09_With.f winnowerref09_Without.f winnowerref09_And.f winnowerref09_Or.f winnowerref09_Not.f winnowerref09_Upto.f winnowerref09_Has.f winnowerlaw09_few.f
-- IMPORT Derived.Test.YteaiaeejdcmefaaDoorHbitset
-- IMPORT Derived.Test.YteaiaeejdcmefaaDoorHset09T
open Go.Proofs.YteaiaeejdcmefaaDoor.Hbitset
/-- Lists of numbers that rise. -/
def Rises (l : List Int) : Prop := l.Pairwise (· < ·)
theorem rises_uniq : ∀ (a b : List Int), Rises a → Rises b → (∀ x, x ∈ a ↔ x ∈ b) → a = b
  | [], [], _, _, _ => rfl
  | [], y :: ys, _, _, h => absurd ((h y).2 List.mem_cons_self) (by simp)
  | x :: xs, [], _, _, h => absurd ((h x).1 List.mem_cons_self) (by simp)
  | x :: xs, y :: ys, ha, hb, h => by
    obtain ⟨a1, a2⟩ := List.pairwise_cons.1 ha
    obtain ⟨b1, b2⟩ := List.pairwise_cons.1 hb
    have e : x = y := by
      rcases List.mem_cons.1 ((h x).1 List.mem_cons_self) with e | hx
      · exact e
      · rcases List.mem_cons.1 ((h y).2 List.mem_cons_self) with e | hy
        · exact e.symm
        · have := b1 x hx; have := a1 y hy; omega
    subst e
    rw [rises_uniq xs ys a2 b2 fun z => ?_]
    constructor
    · intro hz
      rcases List.mem_cons.1 ((h z).1 (List.mem_cons_of_mem _ hz)) with e | h2
      · have := a1 z hz; omega
      · exact h2
    · intro hz
      rcases List.mem_cons.1 ((h z).2 (List.mem_cons_of_mem _ hz)) with e | h2
      · have := b1 z hz; omega
      · exact h2
/-- All that p says, as numbers of Go's. -/
def allN (p : Nat → Bool) : List Int := ints (elems 65536 p)
theorem allN_rises (p : Nat → Bool) : Rises (allN p) := by
  unfold Rises allN ints
  rw [List.pairwise_map]
  exact (elems_sorted 65536 p).imp fun h => by omega
theorem allN_mem {p : Nat → Bool} {x : Int} : x ∈ allN p ↔ ∃ i : Nat, i < 65536 ∧ p i = true ∧ (i : Int) = x := by
  unfold allN ints
  rw [List.mem_map]
  exact ⟨fun ⟨i, hi, e⟩ => ⟨i, (elems_mem.1 hi).1, (elems_mem.1 hi).2, e⟩, fun ⟨i, h1, h2, e⟩ => ⟨i, elems_mem.2 ⟨h1, h2⟩, e⟩⟩
theorem allN_is {l : List Int} {p : Nat → Bool} (h : Rises l) (hm : ∀ x, x ∈ l ↔ ∃ i : Nat, i < 65536 ∧ p i = true ∧ (i : Int) = x) : l = allN p := rises_uniq _ _ h (allN_rises p) fun x => (hm x).trans allN_mem.symm
theorem allN_len (p : Nat → Bool) : (allN p).length ≤ 65536 := by
  unfold allN ints elems
  rw [List.length_map]
  have := List.length_filter_le p (List.range 65536)
  rwa [List.length_range] at this
theorem rd_at {l : List Int} {i : Nat} (h : i < l.length) : rd l (i : Int) = l[i] := by rw [rd, Int.toNat_natCast, List.getD_eq_getElem?_getD, List.getElem?_eq_getElem h]; rfl
theorem next {i : Nat} (h : i < 1000000000) : wrap64 ((i : Int) + 1) = ((i + 1 : Nat) : Int) := by unfold wrap64; omega
theorem refhas_from (l : List Int) (a : Int) (hl : l.length ≤ 1000000) : ∀ (d k i : Nat), i + d = l.length → d < k → winnowerref09_Has.l0 k l a (i : Int) = some (decide (a ∈ l.drop i)) := by
  intro d
  induction d with
  | zero =>
    intro k i hd hk
    obtain ⟨k, rfl⟩ : ∃ m, k = m + 1 := ⟨k - 1, by omega⟩
    simp only [winnowerref09_Has.l0]
    rw [if_neg (by omega), List.drop_of_length_le (by omega)]
    rfl
  | succ d ih =>
    intro k i hd hk
    obtain ⟨k, rfl⟩ : ∃ m, k = m + 1 := ⟨k - 1, by omega⟩
    have hi : i < l.length := by omega
    simp only [winnowerref09_Has.l0]
    rw [if_pos (by omega), if_pos (by omega), rd_at hi, next (by omega), List.drop_eq_getElem_cons hi]
    by_cases h : l[i] = a
    · rw [if_pos h, decide_eq_true (List.mem_cons.2 (.inl h.symm))]
    · rw [if_neg h, ih k (i + 1) (by omega) (by omega)]
      exact congrArg some (decide_eq_decide.2 ⟨fun x => List.mem_cons_of_mem _ x, fun x => (List.mem_cons.1 x).resolve_left (fun e => h e.symm)⟩)
theorem refhas_tell {l : List Int} (hl : l.length ≤ 1000000) (a : Int) {k : Nat} (hk : l.length < k) : winnowerref09_Has.f k l a = some (decide (a ∈ l)) := by
  rw [winnowerref09_Has.f, show (0 : Int) = ((0 : Nat) : Int) from rfl, refhas_from l a hl l.length k 0 (by omega) hk, List.drop_zero]
/-- A number, put where it belongs. -/
def ins (a : Int) : List Int → List Int
  | [] => [a]
  | x :: xs => if x > a then a :: x :: xs else x :: ins a xs
theorem ins_mem (a : Int) : ∀ (l : List Int) (x : Int), x ∈ ins a l ↔ x = a ∨ x ∈ l
  | [], x => by simp [ins]
  | y :: ys, x => by
    rw [ins]
    by_cases h : y > a
    · rw [if_pos h, List.mem_cons]
    · rw [if_neg h, List.mem_cons, ins_mem a ys x, List.mem_cons]
      constructor
      · rintro (h | h | h)
        · exact .inr (.inl h)
        · exact .inl h
        · exact .inr (.inr h)
      · rintro (h | h | h)
        · exact .inr (.inl h)
        · exact .inl h
        · exact .inr (.inr h)
theorem ins_rises (a : Int) : ∀ (l : List Int), Rises l → a ∉ l → Rises (ins a l)
  | [], _, _ => List.pairwise_singleton _ _
  | y :: ys, h, hn => by
    obtain ⟨h1, h2⟩ := List.pairwise_cons.1 h
    rw [ins]
    by_cases hy : y > a
    · rw [if_pos hy]
      exact List.pairwise_cons.2 ⟨fun z hz => by
        rcases List.mem_cons.1 hz with rfl | hz
        · exact hy
        · have := h1 z hz; omega, h⟩
    · rw [if_neg hy]
      refine List.pairwise_cons.2 ⟨fun z hz => ?_, ins_rises a ys h2 (fun x => hn (List.mem_cons_of_mem _ x))⟩
      rcases (ins_mem a ys z).1 hz with rfl | hz
      · have : z ≠ y := fun e => hn (List.mem_cons.2 (.inl e)); omega
      · exact h1 z hz
theorem refwith_done (l : List Int) (a : Int) (hl : l.length ≤ 1000000) : ∀ (d k i : Nat) (out : List Int), i + d = l.length → out.length ≤ i + 1 → d < k → winnowerref09_With.l0 k l a out true (i : Int) = some (out ++ l.drop i) := by
  intro d
  induction d with
  | zero =>
    intro k i out hd ho hk
    obtain ⟨k, rfl⟩ : ∃ m, k = m + 1 := ⟨k - 1, by omega⟩
    simp only [winnowerref09_With.l0]
    rw [if_neg (by omega), if_pos trivial, List.drop_of_length_le (by omega), List.append_nil]
  | succ d ih =>
    intro k i out hd ho hk
    obtain ⟨k, rfl⟩ : ∃ m, k = m + 1 := ⟨k - 1, by omega⟩
    have hi : i < l.length := by omega
    simp only [winnowerref09_With.l0]
    rw [if_pos (by omega), if_pos trivial, if_pos (by omega), if_pos (by omega), rd_at hi, next (by omega), ih k (i + 1) _ (by omega) (by rw [List.length_append, List.length_singleton]; omega) (by omega), List.drop_eq_getElem_cons hi, List.append_assoc]
    rfl
theorem refwith_from (l : List Int) (a : Int) (hl : l.length ≤ 1000000) : ∀ (d k i : Nat) (out : List Int), i + d = l.length → out.length ≤ i → d < k → winnowerref09_With.l0 k l a out false (i : Int) = some (out ++ ins a (l.drop i)) := by
  intro d
  induction d with
  | zero =>
    intro k i out hd ho hk
    obtain ⟨k, rfl⟩ : ∃ m, k = m + 1 := ⟨k - 1, by omega⟩
    simp only [winnowerref09_With.l0]
    rw [if_neg (by omega), if_neg Bool.false_ne_true, if_pos (by omega), List.drop_of_length_le (by omega), ins]
  | succ d ih =>
    intro k i out hd ho hk
    obtain ⟨k, rfl⟩ : ∃ m, k = m + 1 := ⟨k - 1, by omega⟩
    have hi : i < l.length := by omega
    simp only [winnowerref09_With.l0]
    rw [if_pos (by omega), if_neg Bool.false_ne_true, if_pos (by omega), rd_at hi, next (by omega), List.drop_eq_getElem_cons hi, ins]
    by_cases h : l[i] > a
    · rw [if_pos h, if_pos h, if_pos (by omega), Option.bind_some, if_pos (by rw [List.length_append, List.length_singleton]; omega), refwith_done l a hl d k (i + 1) _ (by omega) (by simp only [List.length_append, List.length_singleton]; omega) (by omega), List.append_assoc, List.append_assoc]
      rfl
    · rw [if_neg h, if_neg h, if_pos (by omega), ih k (i + 1) _ (by omega) (by rw [List.length_append, List.length_singleton]; omega) (by omega), List.append_assoc]
      rfl
def refWithL (l : List Int) (a : Int) : List Int := if (0 ≤ a ∧ a < 65536) ∧ a ∉ l then ins a l else l
theorem refwith_tell {l : List Int} (hl : l.length ≤ 1000000) (a : Int) {k : Nat} (hk : l.length + 1 < k) : winnowerref09_With.f k l a = some (refWithL l a) := by
  obtain ⟨k, rfl⟩ : ∃ m, k = m + 1 := ⟨k - 1, by omega⟩
  unfold winnowerref09_With.f refWithL
  rw [show winnowerref09_may.f a = some (decide (0 ≤ a ∧ a < 65536)) from rfl, Option.bind_some]
  by_cases ha : 0 ≤ a ∧ a < 65536
  · rw [decide_eq_true ha, if_pos rfl, refhas_tell hl a (by omega), Option.bind_some, winnowerref09_With.j0]
    by_cases hm : a ∈ l
    · rw [decide_eq_true hm, if_pos rfl, if_neg (fun h => h.2 hm)]
    · rw [decide_eq_false hm, if_neg Bool.false_ne_true, if_pos ⟨ha, hm⟩, show (0 : Int) = ((0 : Nat) : Int) from rfl, refwith_from l a hl l.length k 0 [] (by omega) (by simp) (by omega), List.drop_zero, List.nil_append]
  · rw [decide_eq_false ha, if_neg Bool.false_ne_true, winnowerref09_With.j0, if_pos rfl, if_neg (fun h => ha h.1)]
theorem refWithL_all (p : Nat → Bool) (a : Int) : refWithL (allN p) a = allN fun i => p i || decide ((0 ≤ a ∧ a < 65536) ∧ (i : Int) = a) := by
  unfold refWithL
  by_cases h : (0 ≤ a ∧ a < 65536) ∧ a ∉ allN p
  · rw [if_pos h]
    refine allN_is (ins_rises a _ (allN_rises p) h.2) fun x => ?_
    rw [ins_mem, allN_mem]
    constructor
    · rintro (rfl | ⟨i, h1, h2, h3⟩)
      · exact ⟨x.toNat, by omega, by rw [decide_eq_true ⟨h.1, by omega⟩, Bool.or_true], by omega⟩
      · exact ⟨i, h1, by rw [h2, Bool.true_or], h3⟩
    · rintro ⟨i, h1, h2, h3⟩
      rcases Bool.or_eq_true _ _ ▸ h2 with h4 | h4
      · exact .inr ⟨i, h1, h4, h3⟩
      · rw [decide_eq_true_eq] at h4; exact .inl (by omega)
  · rw [if_neg h]
    refine allN_is (allN_rises p) fun x => ?_
    rw [allN_mem]
    constructor
    · rintro ⟨i, h1, h2, h3⟩
      exact ⟨i, h1, by rw [h2, Bool.true_or], h3⟩
    · rintro ⟨i, h1, h2, h3⟩
      rcases Bool.or_eq_true _ _ ▸ h2 with h4 | h4
      · exact ⟨i, h1, h4, h3⟩
      · rw [decide_eq_true_eq] at h4
        by_cases hm : a ∈ allN p
        · obtain ⟨j, j1, j2, j3⟩ := allN_mem.1 hm
          exact ⟨j, j1, j2, by omega⟩
        · exact absurd ⟨h4.1, hm⟩ h
theorem refof_from (l : List Int) (hl : l.length ≤ 1000000) : ∀ (d k i : Nat) (p : Nat → Bool), i + d = l.length → d + 70000 < k → winnowerref09_Of.l0 k l (allN p) (i : Int) = some (allN fun j => p j || decide ((j : Int) ∈ l.drop i ∧ j < 65536)) := by
  intro d
  induction d with
  | zero =>
    intro k i p hd hk
    obtain ⟨k, rfl⟩ : ∃ m, k = m + 1 := ⟨k - 1, by omega⟩
    simp only [winnowerref09_Of.l0]
    rw [if_neg (by omega), List.drop_of_length_le (by omega)]
    refine congrArg some (congrArg allN (funext fun j => ?_))
    rw [decide_eq_false (by simp), Bool.or_false]
  | succ d ih =>
    intro k i p hd hk
    obtain ⟨k, rfl⟩ : ∃ m, k = m + 1 := ⟨k - 1, by omega⟩
    have hi : i < l.length := by omega
    obtain ⟨x, hx⟩ : ∃ x, l[i]'hi = x := ⟨_, rfl⟩
    have hp := allN_len p
    simp only [winnowerref09_Of.l0]
    rw [if_pos (by omega), if_pos (by omega), rd_at hi, next (by omega), refwith_tell (by omega) _ (by omega), Option.bind_some, refWithL_all, ih k (i + 1) _ (by omega) (by omega), List.drop_eq_getElem_cons hi, hx]
    refine congrArg some (congrArg allN (funext fun j => ?_))
    rw [Bool.or_assoc]
    refine congrArg (fun z => p j || z) ?_
    by_cases e : (j : Int) = x
    · by_cases hj : j < 65536
      · rw [decide_eq_true (show (0 ≤ x ∧ x < 65536) ∧ (j : Int) = x from ⟨by omega, e⟩), Bool.true_or, decide_eq_true ⟨List.mem_cons.2 (.inl e), hj⟩]
      · rw [decide_eq_false (fun h => by omega), decide_eq_false (fun h => hj h.2), decide_eq_false (fun h => hj h.2)]; rfl
    · rw [decide_eq_false (fun h => e h.2), Bool.false_or]
      exact decide_eq_decide.2 ⟨fun h => ⟨List.mem_cons_of_mem _ h.1, h.2⟩, fun h => ⟨(List.mem_cons.1 h.1).resolve_left e, h.2⟩⟩
theorem allN_none : allN (fun _ => false) = [] := by
  unfold allN elems
  rw [List.filter_eq_nil_iff.2 (fun i _ => by simp)]
  rfl
theorem allN_congr {p q : Nat → Bool} (h : ∀ i, i < 65536 → p i = q i) : allN p = allN q := by unfold allN; rw [elems_congr h]
theorem refof_tell {l : List Int} (hl : l.length ≤ 1000000) {k : Nat} (hk : l.length + 70000 < k) : winnowerref09_Of.f k l = some (allN (bit (ofL [] l))) := by
  have e := refof_from l hl l.length k 0 (fun _ => false) (by omega) hk
  rw [allN_none, List.drop_zero] at e
  refine e.trans (congrArg some (allN_congr fun i _ => ?_))
  rw [ofL_bit0, Bool.false_or]
theorem refor_from (l : List Int) (hl : l.length ≤ 1000000) : ∀ (d k i : Nat) (p : Nat → Bool), i + d = l.length → d + 70000 < k → winnowerref09_Or.l0 k l (allN p) (i : Int) = some (allN fun j => p j || decide ((j : Int) ∈ l.drop i ∧ j < 65536)) := by
  intro d
  induction d with
  | zero =>
    intro k i p hd hk
    obtain ⟨k, rfl⟩ : ∃ m, k = m + 1 := ⟨k - 1, by omega⟩
    simp only [winnowerref09_Or.l0]
    rw [if_neg (by omega), List.drop_of_length_le (by omega)]
    refine congrArg some (congrArg allN (funext fun j => ?_))
    rw [decide_eq_false (by simp), Bool.or_false]
  | succ d ih =>
    intro k i p hd hk
    obtain ⟨k, rfl⟩ : ∃ m, k = m + 1 := ⟨k - 1, by omega⟩
    have hi : i < l.length := by omega
    obtain ⟨x, hx⟩ : ∃ x, l[i]'hi = x := ⟨_, rfl⟩
    have hp := allN_len p
    simp only [winnowerref09_Or.l0]
    rw [if_pos (by omega), if_pos (by omega), rd_at hi, next (by omega), refwith_tell (by omega) _ (by omega), Option.bind_some, refWithL_all, ih k (i + 1) _ (by omega) (by omega), List.drop_eq_getElem_cons hi, hx]
    refine congrArg some (congrArg allN (funext fun j => ?_))
    rw [Bool.or_assoc]
    refine congrArg (fun z => p j || z) ?_
    by_cases e : (j : Int) = x
    · by_cases hj : j < 65536
      · rw [decide_eq_true (show (0 ≤ x ∧ x < 65536) ∧ (j : Int) = x from ⟨by omega, e⟩), Bool.true_or, decide_eq_true ⟨List.mem_cons.2 (.inl e), hj⟩]
      · rw [decide_eq_false (fun h => by omega), decide_eq_false (fun h => hj h.2), decide_eq_false (fun h => hj h.2)]; rfl
    · rw [decide_eq_false (fun h => e h.2), Bool.false_or]
      exact decide_eq_decide.2 ⟨fun h => ⟨List.mem_cons_of_mem _ h.1, h.2⟩, fun h => ⟨(List.mem_cons.1 h.1).resolve_left e, h.2⟩⟩
theorem allN_memN {p : Nat → Bool} {j : Nat} (h : j < 65536) : (j : Int) ∈ allN p ↔ p j = true := by
  rw [allN_mem]
  exact ⟨fun ⟨i, _, h2, h3⟩ => by rw [show j = i by omega]; exact h2, fun h2 => ⟨j, h, h2, rfl⟩⟩
theorem refor_tell (p q : Nat → Bool) {k : Nat} (hk : 140000 < k) : winnowerref09_Or.f k (allN p) (allN q) = some (allN fun i => p i || q i) := by
  have h1 := allN_len q
  rw [winnowerref09_Or.f, show (0 : Int) = ((0 : Nat) : Int) from rfl, refor_from (allN q) (by omega) (allN q).length k 0 p (by omega) (by omega), List.drop_zero]
  exact congrArg some (allN_congr fun i hi => by
    refine congrArg (fun z => p i || z) ?_
    cases hq : q i with
    | true => exact decide_eq_true ⟨(allN_memN hi).2 hq, hi⟩
    | false => exact decide_eq_false fun h => by rw [(allN_memN hi).1 h.1] at hq; cases hq)
theorem refwithout_from (l : List Int) (a : Int) (hl : l.length ≤ 1000000) : ∀ (d k i : Nat) (out : List Int), i + d = l.length → out.length ≤ i → d < k → winnowerref09_Without.l0 k l a out (i : Int) = some (out ++ (l.drop i).filter fun x => decide (x ≠ a)) := by
  intro d
  induction d with
  | zero =>
    intro k i out hd ho hk
    obtain ⟨k, rfl⟩ : ∃ m, k = m + 1 := ⟨k - 1, by omega⟩
    simp only [winnowerref09_Without.l0]
    rw [if_neg (by omega), List.drop_of_length_le (by omega), List.filter_nil, List.append_nil]
  | succ d ih =>
    intro k i out hd ho hk
    obtain ⟨k, rfl⟩ : ∃ m, k = m + 1 := ⟨k - 1, by omega⟩
    have hi : i < l.length := by omega
    simp only [winnowerref09_Without.l0]
    rw [if_pos (by omega), if_pos (by omega), rd_at hi, next (by omega), List.drop_eq_getElem_cons hi, List.filter_cons]
    by_cases h : l[i] = a
    · rw [if_pos h, ih k (i + 1) out (by omega) (by omega) (by omega), if_neg (by simp [h])]
    · rw [if_neg h, if_pos (by omega), ih k (i + 1) _ (by omega) (by rw [List.length_append, List.length_singleton]; omega) (by omega), if_pos (by simp [h]), List.append_assoc]
      rfl
theorem refwithout_tell (p : Nat → Bool) (a : Int) {k : Nat} (hk : 70000 < k) : winnowerref09_Without.f k (allN p) a = some (allN fun i => p i && decide ((i : Int) ≠ a)) := by
  have h1 := allN_len p
  rw [winnowerref09_Without.f, show (0 : Int) = ((0 : Nat) : Int) from rfl, refwithout_from _ a (by omega) (allN p).length k 0 [] (by omega) (by simp) (by omega), List.drop_zero, List.nil_append]
  refine congrArg some (allN_is ((allN_rises p).filter _) fun x => ?_)
  rw [List.mem_filter, allN_mem]
  constructor
  · rintro ⟨⟨i, h1, h2, rfl⟩, h3⟩
    exact ⟨i, h1, by rw [h2, Bool.true_and]; exact h3, rfl⟩
  · rintro ⟨i, h1, h2, rfl⟩
    rw [Bool.and_eq_true] at h2
    exact ⟨⟨i, h1, h2.1, rfl⟩, h2.2⟩
theorem refand_from (l m : List Int) (hl : l.length ≤ 1000000) (hm : m.length ≤ 1000000) : ∀ (d k i : Nat) (out : List Int), i + d = l.length → out.length ≤ i → d + m.length < k → winnowerref09_And.l0 k l m out (i : Int) = some (out ++ (l.drop i).filter fun x => decide (x ∈ m)) := by
  intro d
  induction d with
  | zero =>
    intro k i out hd ho hk
    obtain ⟨k, rfl⟩ : ∃ m, k = m + 1 := ⟨k - 1, by omega⟩
    simp only [winnowerref09_And.l0]
    rw [if_neg (by omega), List.drop_of_length_le (by omega), List.filter_nil, List.append_nil]
  | succ d ih =>
    intro k i out hd ho hk
    obtain ⟨k, rfl⟩ : ∃ m, k = m + 1 := ⟨k - 1, by omega⟩
    have hi : i < l.length := by omega
    simp only [winnowerref09_And.l0]
    rw [if_pos (by omega), if_pos (by omega), rd_at hi, next (by omega), List.drop_eq_getElem_cons hi, List.filter_cons, refhas_tell hm _ (by omega), Option.bind_some]
    by_cases h : l[i] ∈ m
    · rw [decide_eq_true h, if_pos rfl, if_pos (by omega), ih k (i + 1) _ (by omega) (by rw [List.length_append, List.length_singleton]; omega) (by omega), if_pos rfl, List.append_assoc]
      rfl
    · rw [decide_eq_false h, if_neg Bool.false_ne_true, ih k (i + 1) out (by omega) (by omega) (by omega), if_neg Bool.false_ne_true]
theorem refand_tell (p q : Nat → Bool) {k : Nat} (hk : 140000 < k) : winnowerref09_And.f k (allN p) (allN q) = some (allN fun i => p i && q i) := by
  have h1 := allN_len p
  have h2 := allN_len q
  rw [winnowerref09_And.f, show (0 : Int) = ((0 : Nat) : Int) from rfl, refand_from _ _ (by omega) (by omega) (allN p).length k 0 [] (by omega) (by simp) (by omega), List.drop_zero, List.nil_append]
  refine congrArg some (allN_is ((allN_rises p).filter _) fun x => ?_)
  rw [List.mem_filter, allN_mem]
  constructor
  · rintro ⟨⟨i, h1, h2, rfl⟩, h3⟩
    rw [decide_eq_true_eq, allN_memN h1] at h3
    exact ⟨i, h1, by rw [h2, h3]; rfl, rfl⟩
  · rintro ⟨i, h1, h2, rfl⟩
    rw [Bool.and_eq_true] at h2
    exact ⟨⟨i, h1, h2.1, rfl⟩, decide_eq_true ((allN_memN h1).2 h2.2)⟩
/-- The numbers from i on, below n. -/
theorem uptoN_lt (n : Int) (i : Nat) : i < uptoN n ↔ (i : Int) < n ∧ (i : Int) < 65536 := by unfold uptoN mn mx; split <;> split <;> omega
theorem refnot_from (l : List Int) (n : Int) (hl : l.length ≤ 1000000) : ∀ (d k i : Nat) (out : List Int), i + d = uptoN n → out.length ≤ i → 2 * d + l.length + 1 < k → winnowerref09_Not.l0 k l n out (i : Int) = some (out ++ ((List.range d).map fun j => ((i + j : Nat) : Int)).filter fun x => decide (x ∉ l)) := by
  have hN := uptoN_le n
  intro d
  induction d with
  | zero =>
    intro k i out hd ho hk
    obtain ⟨k, rfl⟩ : ∃ m, k = m + 1 + 1 := ⟨k - 2, by omega⟩
    have h := uptoN_lt n i
    simp only [winnowerref09_Not.l0]
    rw [List.range_zero, List.map_nil, List.filter_nil, List.append_nil]
    by_cases h1 : (i : Int) < n
    · rw [if_pos h1, decide_eq_false (fun h2 => absurd (h.2 ⟨h1, h2⟩) (by omega)), winnowerref09_Not.j1, if_neg Bool.false_ne_true]
    · rw [if_neg h1, winnowerref09_Not.j1, if_neg Bool.false_ne_true]
  | succ d ih =>
    intro k i out hd ho hk
    obtain ⟨k, rfl⟩ : ∃ m, k = m + 1 + 1 := ⟨k - 2, by omega⟩
    obtain ⟨h1, h2⟩ := (uptoN_lt n i).1 (by omega)
    have e : ((List.range (d + 1)).map fun j => ((i + j : Nat) : Int)) = (i : Int) :: (List.range d).map fun j => ((i + 1 + j : Nat) : Int) := by
      rw [List.range_succ_eq_map, List.map_cons, List.map_map]
      refine congrArg (List.cons _) (List.map_congr_left fun j _ => ?_)
      simp only [Function.comp]
      omega
    simp only [winnowerref09_Not.l0]
    rw [if_pos h1, decide_eq_true h2, winnowerref09_Not.j1, if_pos rfl, refhas_tell hl _ (by omega), Option.bind_some, next (by omega), e, List.filter_cons]
    by_cases h : (i : Int) ∈ l
    · rw [decide_eq_true h, if_pos rfl, ih k (i + 1) out (by omega) (by omega) (by omega), if_neg (by simp [h])]
    · rw [decide_eq_false h, if_neg Bool.false_ne_true, if_pos (by omega), ih k (i + 1) _ (by omega) (by rw [List.length_append, List.length_singleton]; omega) (by omega), if_pos (by simp [h]), List.append_assoc]
      rfl
theorem range_rises (d : Nat) : Rises ((List.range d).map fun j => ((0 + j : Nat) : Int)) := by
  unfold Rises
  rw [List.pairwise_map]
  exact List.pairwise_lt_range.imp fun h => by omega
theorem refnot_tell (p : Nat → Bool) (n : Int) {k : Nat} (hk : 210000 < k) : winnowerref09_Not.f k (allN p) n = some (allN fun i => decide (i < uptoN n) && !p i) := by
  have h1 := allN_len p
  have hN := uptoN_le n
  rw [winnowerref09_Not.f, show (0 : Int) = ((0 : Nat) : Int) from rfl, refnot_from _ n (by omega) (uptoN n) k 0 [] (by omega) (by simp) (by omega), List.nil_append]
  refine congrArg some (allN_is ((range_rises _).filter _) fun x => ?_)
  rw [List.mem_filter, List.mem_map]
  constructor
  · rintro ⟨⟨i, h1, rfl⟩, h3⟩
    have h1 := List.mem_range.1 h1
    rw [Nat.zero_add, decide_eq_true_eq, allN_memN (by omega)] at h3
    exact ⟨i, by omega, by rw [decide_eq_true h1, Bool.true_and, Bool.eq_false_iff.2 h3]; rfl, by omega⟩
  · rintro ⟨i, h1, h2, rfl⟩
    rw [Bool.and_eq_true, decide_eq_true_eq] at h2
    refine ⟨⟨i, List.mem_range.2 h2.1, by rw [Nat.zero_add]⟩, decide_eq_true fun h => ?_⟩
    rw [(allN_memN h1).1 h] at h2
    cases h2.2
theorem refupto_from (n : Int) : ∀ (d k i : Nat) (out : List Int), i + d = uptoN n → out.length ≤ i → d < k → winnowerref09_Upto.l0 k n out (i : Int) = some (out ++ ((List.range d).map fun j => ((i + j : Nat) : Int))) := by
  have hN := uptoN_le n
  intro d
  induction d with
  | zero =>
    intro k i out hd ho hk
    obtain ⟨k, rfl⟩ : ∃ m, k = m + 1 := ⟨k - 1, by omega⟩
    have h := uptoN_lt n i
    simp only [winnowerref09_Upto.l0]
    rw [List.range_zero, List.map_nil, List.append_nil]
    by_cases h1 : (i : Int) < n
    · rw [if_pos h1, if_neg (fun h2 => absurd (h.2 ⟨h1, h2⟩) (by omega))]
    · rw [if_neg h1]
  | succ d ih =>
    intro k i out hd ho hk
    obtain ⟨k, rfl⟩ : ∃ m, k = m + 1 := ⟨k - 1, by omega⟩
    obtain ⟨h1, h2⟩ := (uptoN_lt n i).1 (by omega)
    have e : ((List.range (d + 1)).map fun j => ((i + j : Nat) : Int)) = (i : Int) :: (List.range d).map fun j => ((i + 1 + j : Nat) : Int) := by
      rw [List.range_succ_eq_map, List.map_cons, List.map_map]
      refine congrArg (List.cons _) (List.map_congr_left fun j _ => ?_)
      simp only [Function.comp]
      omega
    simp only [winnowerref09_Upto.l0]
    rw [if_pos h1, if_pos h2, if_pos (by omega), next (by omega), ih k (i + 1) _ (by omega) (by rw [List.length_append, List.length_singleton]; omega) (by omega), e, List.append_assoc]
    rfl
theorem refupto_tell (n : Int) {k : Nat} (hk : 70000 < k) : winnowerref09_Upto.f k n = some (allN fun i => decide (i < uptoN n)) := by
  have hN := uptoN_le n
  rw [winnowerref09_Upto.f, show (0 : Int) = ((0 : Nat) : Int) from rfl, refupto_from n (uptoN n) k 0 [] (by omega) (by simp) (by omega), List.nil_append]
  refine congrArg some (allN_is (range_rises _) fun x => ?_)
  rw [List.mem_map]
  constructor
  · rintro ⟨i, h1, rfl⟩
    have h1 := List.mem_range.1 h1
    exact ⟨i, by omega, decide_eq_true h1, by omega⟩
  · rintro ⟨i, h1, h2, rfl⟩
    exact ⟨i, List.mem_range.2 (of_decide_eq_true h2), by rw [Nat.zero_add]⟩
theorem few_from (l : List Int) (hl : l.length ≤ 60) : ∀ (d k i : Nat), i + d = l.length → d < k → ∃ b, winnowerlaw09_few.l0 k l (i : Int) = some b := by
  intro d
  induction d with
  | zero =>
    intro k i hd hk
    obtain ⟨k, rfl⟩ : ∃ m, k = m + 1 := ⟨k - 1, by omega⟩
    exact ⟨true, by simp only [winnowerlaw09_few.l0]; rw [if_neg (by omega)]⟩
  | succ d ih =>
    intro k i hd hk
    obtain ⟨k, rfl⟩ : ∃ m, k = m + 1 := ⟨k - 1, by omega⟩
    obtain ⟨b, hb⟩ := ih k (i + 1) (by omega) (by omega)
    simp only [winnowerlaw09_few.l0]
    rw [if_pos (by omega), if_pos (by omega), next (by omega), hb]
    by_cases h1 : rd l (i : Int) ≥ 2000
    · rw [if_pos h1]
      by_cases h2 : rd l (i : Int) < 65530
      · exact ⟨false, by rw [if_pos h2]⟩
      · exact ⟨b, by rw [if_neg h2]⟩
    · exact ⟨b, by rw [if_neg h1]⟩
theorem few_tell (l : List Int) {k : Nat} (hk : 100 < k) : ∃ b, winnowerlaw09_few.f k l = some b ∧ (b = true → l.length ≤ 60) := by
  unfold winnowerlaw09_few.f
  by_cases h : (l.length : Int) > 60
  · exact ⟨false, by rw [if_pos h], fun e => by cases e⟩
  · rw [if_neg h]
    obtain ⟨b, hb⟩ := few_from l (by omega) l.length k 0 (by omega) (by omega)
    exact ⟨b, hb, fun _ => by omega⟩

end Go.Proofs.YteaiaeejdcmefaaDoor.T
