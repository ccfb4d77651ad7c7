/- Statement BitsetLaws: they are sets: not of both is one of both nots, and the other way round; no condition but that the library's table is laid as its text lays it (the card ties it). -/
import Derived.Test.YteaiaeejdcmefaaDoorSx15
import Derived.Test.YteaiaeejdcmefaaDoorHbitset
import Derived.Test.YteaiaeejdcmefaaDoorHset09S
namespace Go.Proofs.YteaiaeejdcmefaaDoor.Pure
set_option linter.unusedVariables false
set_option linter.unusedSimpArgs false
open Go.RowKit Go.Proofs.YteaiaeejdcmefaaDoor.S Go.Proofs.YteaiaeejdcmefaaDoor.Hbitset Go.Proofs.YteaiaeejdcmefaaDoorW.PrintWords Go.Proofs.YteaiaeejdcmefaaDoorW.PrintLast
theorem elems_none (n : Nat) {p : Nat → Bool} (h : ∀ i, p i = false) : elems n p = [] := List.filter_eq_nil_iff.2 fun i _ => by rw [h i]; decide
theorem elems_le (n : Nat) (p : Nat → Bool) : (elems n p).length ≤ n := by
  have := List.length_filter_le p (List.range n)
  rwa [List.length_range] at this
theorem elems_cnt (n : Nat) (p q : Nat → Bool) : (elems n fun x => p x && q x).length + (elems n fun x => p x || q x).length = (elems n p).length + (elems n q).length := filter_len p q (List.range n)
theorem sum_same {a b c d : Nat} (h : a + b = c + d) : wrap64 ((a : Int) + (b : Int)) = wrap64 ((c : Int) + (d : Int)) := by rw [show (a : Int) + (b : Int) = (c : Int) + (d : Int) from by omega]
theorem BitsetLaws : winnowerlaw09_BitsetLaws.Pure := by
  intro l0 l1 l2 n _ _ _ _ _ _ _ _ _ _
  refine ⟨5000 + 1, ?_⟩
  unfold winnowerlaw09_BitsetLaws.f
  rw [awake09 (by omega), Option.bind_some, if_pos rfl]
  have stop : winnowerlaw09_BitsetLaws.j0 (5000 + 1) l0 l1 l2 n true true = some true := by rw [winnowerlaw09_BitsetLaws.j0, if_pos rfl]
  have main : winnowerlaw09_BitsetLaws.j0 (5000 + 1) l0 l1 l2 n true false = some true := by
    obtain ⟨s, hs'⟩ : ∃ s, ofL [] l0 = s := ⟨_, rfl⟩
    obtain ⟨t, ht'⟩ : ∃ s, ofL [] l1 = s := ⟨_, rfl⟩
    obtain ⟨u, hu'⟩ : ∃ s, ofL [] l2 = s := ⟨_, rfl⟩
    have hs : Bs s := hs' ▸ ofL_ok0 l0
    have ht : Bs t := ht' ▸ ofL_ok0 l1
    have hu : Bs u := hu' ▸ ofL_ok0 l2
    have hk : 2000 < 5000 := by decide
    have kN := uptoL_ok (uptoN_le n)
    have s1 : bitset_Same.f 5000 (notL (andL s t) n) (orL (notL s n) (notL t n)) = some true := same_yes (notL_ok (andL_ok hs ht) n) (orL_ok (notL_ok hs n) (notL_ok ht n)) hk fun i => by
      rw [notL_bit (andL_ok hs ht), andL_bit hs ht, orL_bit (notL_ok hs n) (notL_ok ht n), notL_bit hs, notL_bit ht]
      cases bit s i <;> cases bit t i <;> cases decide (i < uptoN n) <;> rfl
    have s2 : bitset_Same.f 5000 (notL (orL s t) n) (andL (notL s n) (notL t n)) = some true := same_yes (notL_ok (orL_ok hs ht) n) (andL_ok (notL_ok hs n) (notL_ok ht n)) hk fun i => by
      rw [notL_bit (orL_ok hs ht), orL_bit hs ht, andL_bit (notL_ok hs n) (notL_ok ht n), notL_bit hs, notL_bit ht]
      cases bit s i <;> cases bit t i <;> cases decide (i < uptoN n) <;> rfl
    have s3 : bitset_Same.f 5000 (andL s (orL t u)) (orL (andL s t) (andL s u)) = some true := same_yes (andL_ok hs (orL_ok ht hu)) (orL_ok (andL_ok hs ht) (andL_ok hs hu)) hk fun i => by
      rw [andL_bit hs (orL_ok ht hu), orL_bit ht hu, orL_bit (andL_ok hs ht) (andL_ok hs hu), andL_bit hs ht, andL_bit hs hu]
      cases bit s i <;> cases bit t i <;> cases bit u i <;> rfl
    have s4 : bitset_Same.f 5000 (notL (notL s n) n) (andL s (uptoL (uptoN n))) = some true := same_yes (notL_ok (notL_ok hs n) n) (andL_ok hs kN) hk fun i => by
      rw [notL_bit (notL_ok hs n), notL_bit hs, andL_bit hs kN, uptoL_bit]
      cases bit s i <;> cases decide (i < uptoN n) <;> rfl
    have c1 := count_tell (andL_ok hs ht) hk
    have c2 := count_tell (orL_ok hs ht) hk
    have c3 := count_tell hs hk
    have c4 := count_tell ht hk
    have c5 := count_tell (andL_ok (notL_ok hs n) hs) hk
    rw [elems_none 65536 (fun i => by rw [andL_bit (notL_ok hs n) hs, notL_bit hs]; cases bit s i <;> simp)] at c5
    rw [elems_congr (fun i _ => andL_bit hs ht i)] at c1
    rw [elems_congr (fun i _ => orL_bit hs ht i)] at c2
    have e := sum_same (elems_cnt 65536 (bit s) (bit t))
    rw [winnowerlaw09_BitsetLaws.j0, if_neg Bool.false_ne_true]
    rw [bitset_Of.f, hs', Option.bind_some, bitset_Of.f, ht', Option.bind_some, bitset_Of.f, hu', Option.bind_some, and_tell hs, Option.bind_some, not_tell, Option.bind_some, not_tell, Option.bind_some, not_tell, Option.bind_some, or_tell (notL_ok hs n) (notL_ok ht n), Option.bind_some, s1, Option.bind_some, or_tell hs ht, Option.bind_some, not_tell, Option.bind_some, Option.bind_some, Option.bind_some, and_tell (notL_ok hs n), Option.bind_some, s2, Option.bind_some, or_tell ht hu, Option.bind_some, and_tell hs, Option.bind_some, Option.bind_some, and_tell hs, Option.bind_some, or_tell (andL_ok hs ht) (andL_ok hs hu), Option.bind_some, s3, Option.bind_some, Option.bind_some, not_tell, Option.bind_some, upto_tell, Option.bind_some, and_tell hs, Option.bind_some, s4, Option.bind_some, if_pos rfl, if_pos rfl, if_pos rfl, if_pos rfl, Option.bind_some, c1, Option.bind_some, Option.bind_some, c2, Option.bind_some, c3, Option.bind_some, c4, Option.bind_some, if_pos e, Option.bind_some, and_tell (notL_ok hs n), Option.bind_some, c5, Option.bind_some]
    rfl
  by_cases h0 : (l0.length : Int) > 60
  · rw [if_pos h0]; exact stop
  · rw [if_neg h0]
    by_cases h1 : (l1.length : Int) > 60
    · rw [if_pos h1]; exact stop
    · rw [if_neg h1]
      by_cases h2 : (l2.length : Int) > 60
      · rw [decide_eq_true h2]; exact stop
      · rw [decide_eq_false h2]; exact main
end Go.Proofs.YteaiaeejdcmefaaDoor.Pure
