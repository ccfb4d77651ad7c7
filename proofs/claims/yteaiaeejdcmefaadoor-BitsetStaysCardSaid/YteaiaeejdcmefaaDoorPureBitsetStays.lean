/- Statement BitsetStays: a set stays, whatever is made of it; no condition but that the library's table is laid as its text lays it (the card ties it). -/
import Derived.Test.YteaiaeejdcmefaaDoorSx24
import Derived.Test.YteaiaeejdcmefaaDoorHbitset
import Derived.Test.YteaiaeejdcmefaaDoorHset09S
namespace Go.Proofs.YteaiaeejdcmefaaDoor.Pure
set_option linter.unusedVariables false
set_option linter.unusedSimpArgs false
open Go.RowKit Go.Proofs.YteaiaeejdcmefaaDoor.S Go.Proofs.YteaiaeejdcmefaaDoor.Hbitset Go.Proofs.YteaiaeejdcmefaaDoorW.PrintWords Go.Proofs.YteaiaeejdcmefaaDoorW.PrintLast
theorem elems_none (n : Nat) {p : Nat → Bool} (h : ∀ i, p i = false) : elems n p = [] := List.filter_eq_nil_iff.2 fun i _ => by rw [h i]; decide
theorem main {k : Nat} (hk : 2001 < k) (l0 l1 : List Int) (a n : Int) : winnowerlaw09_BitsetStays.j0 k l0 l1 a n true false = some true := by
  obtain ⟨k, rfl⟩ : ∃ m, k = m + 1 := ⟨k - 1, by omega⟩
  obtain ⟨s, hs'⟩ : ∃ s, ofL [] l0 = s := ⟨_, rfl⟩
  obtain ⟨u, hu'⟩ : ∃ s, ofL [] l1 = s := ⟨_, rfl⟩
  have hs : Bs s := hs' ▸ ofL_ok0 l0
  have hu : Bs u := hu' ▸ ofL_ok0 l1
  have hz := Bs.nil
  have kk : 2000 < k := by omega
  have c0 := count_tell hz kk
  rw [elems_none 65536 bit_nil] at c0
  have c1 := count_tell (andL_ok hz hs) kk
  rw [elems_none 65536 (fun i => by rw [andL_bit hz hs, bit_nil, Bool.false_and])] at c1
  have h0 : hasL [] a = false := by unfold hasL; rw [bit_nil, Bool.and_false]
  have s1 := same_yes hs hs kk fun i => rfl
  have s2 := same_yes (orL_ok hz hs) hs kk fun i => by rw [orL_bit hz hs, bit_nil, Bool.false_or]
  have w1 := withL_ok hs a
  have w2 := withoutL_ok hs a
  have w3 := orL_ok hs hu
  have w4 := withL_ok w3 5
  have w5 := andL_ok hs hu
  have w6 := notL_ok hs n
  rw [winnowerlaw09_BitsetStays.j0, if_neg Bool.false_ne_true, bitset_Of.f, hs', Option.bind_some, Option.bind_some, bitset_Of.f, hu', Option.bind_some, with_tell hs a kk, Option.bind_some, without_tell w1, Option.bind_some, without_tell hs, Option.bind_some, with_tell w2 _ kk, Option.bind_some,
    or_tell hs hu, Option.bind_some, with_tell w3 5 kk, Option.bind_some, without_tell w4, Option.bind_some, and_tell hs, Option.bind_some, with_tell w5 7 kk, Option.bind_some, not_tell, Option.bind_some, without_tell w6, Option.bind_some, s1, Option.bind_some, if_pos rfl, c0, Option.bind_some, if_pos (show ((([] : List Nat).length : Nat) : Int) = 0 from rfl),
    has_tell hz.1, Option.bind_some, h0, if_neg Bool.false_ne_true, or_tell hz hs, Option.bind_some, s2, Option.bind_some, if_pos rfl, and_tell hz, Option.bind_some, c1, Option.bind_some]
  rfl
theorem BitsetStays : winnowerlaw09_BitsetStays.Pure := by
  intro l0 l1 a n _ _ _ _ _ _ _ _
  obtain ⟨k, hk⟩ : ∃ k, k = 5000 := ⟨_, rfl⟩
  refine ⟨k + 1, ?_⟩
  unfold winnowerlaw09_BitsetStays.f
  have stop : winnowerlaw09_BitsetStays.j0 (k + 1) l0 l1 a n true true = some true := by rw [winnowerlaw09_BitsetStays.j0, if_pos rfl]
  have m := main (k := k + 1) (by omega) l0 l1 a n
  rw [awake09 (by omega), Option.bind_some, if_pos rfl]
  by_cases h0 : (l0.length : Int) > 60
  · rw [if_pos h0]; exact stop
  · rw [if_neg h0]
    by_cases h1 : (l1.length : Int) > 60
    · rw [if_pos h1]; exact stop
    · rw [if_neg h1]
      by_cases h2 : n > 3000
      · rw [decide_eq_true h2]; exact stop
      · rw [decide_eq_false h2]; exact m
end Go.Proofs.YteaiaeejdcmefaaDoor.Pure
