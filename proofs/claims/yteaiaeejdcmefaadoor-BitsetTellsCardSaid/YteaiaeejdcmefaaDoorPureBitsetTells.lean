/- Statement BitsetTells: any sets are what the document says; no condition but that the library's table is laid as its text lays it (the card ties it). -/
import Derived.Test.YteaiaeejdcmefaaDoorTx21
import Derived.Test.YteaiaeejdcmefaaDoorHbitset
import Derived.Test.YteaiaeejdcmefaaDoorHset09T
import Derived.Test.YteaiaeejdcmefaaDoorHref09T
namespace Go.Proofs.YteaiaeejdcmefaaDoor.Pure
set_option linter.unusedVariables false
set_option linter.unusedSimpArgs false
open Go.RowKit Go.Proofs.YteaiaeejdcmefaaDoor.T Go.Proofs.YteaiaeejdcmefaaDoor.Hbitset Go.Proofs.YteaiaeejdcmefaaDoorW.PrintWords Go.Proofs.YteaiaeejdcmefaaDoorW.PrintLast
theorem list_all {w : List Int} (h : Bs w) : winnowerlaw09_List.f w (-1) = some (allN (bit w)) := by
  rw [list_tell h, most_, if_pos (by decide)]
  rfl
theorem ints_same {a b : List Int} (h : a = b) : winnowerref01_Ints.f a b = some true := by rw [winnowerref01_Ints.f, decide_eq_true h]
theorem same_all {a b : List Int} (ha : Bs a) (hb : Bs b) {k : Nat} (hk : 2000 < k) : bitset_Same.f k a b = some (decide (allN (bit a) = allN (bit b))) := by
  obtain ⟨r, hr, hi⟩ := same_tell ha hb hk
  rw [hr]
  refine congrArg some ?_
  have key : (∀ i, bit a i = bit b i) ↔ allN (bit a) = allN (bit b) := by
    constructor
    · intro h; exact allN_congr fun i _ => h i
    · intro h i
      by_cases hi : i < 65536
      · have h1 := allN_memN (p := bit a) hi
        have h2 := allN_memN (p := bit b) hi
        rw [h] at h1
        rw [Bool.eq_iff_iff, ← h1, ← h2]
      · have e1 := ha.2
        have e2 := hb.2
        rw [bit_far (by omega), bit_far (by omega)]
  rw [key] at hi
  cases r with
  | true => exact (decide_eq_true (hi.1 rfl)).symm
  | false => exact (decide_eq_false (fun h => by cases hi.2 h)).symm
theorem has_all {w : List Int} (h : Bs w) (a : Int) : hasL w a = decide (a ∈ allN (bit w)) := by
  unfold hasL
  by_cases ha : 0 ≤ a ∧ a < 65536
  · obtain ⟨n, rfl⟩ := Int.eq_ofNat_of_zero_le ha.1
    rw [decide_eq_true ha, Bool.true_and, Int.toNat_natCast]
    have hm := allN_memN (p := bit w) (j := n) (by omega)
    cases hb : bit w n with
    | true => exact (decide_eq_true (hm.2 hb)).symm
    | false => exact (decide_eq_false (fun h => by rw [hm.1 h] at hb; cases hb)).symm
  · rw [decide_eq_false ha, Bool.false_and]
    exact (decide_eq_false fun h => by obtain ⟨i, h1, _, h3⟩ := allN_mem.1 h; exact ha (by omega)).symm
theorem len_all (p : Nat → Bool) : (allN p).length = (elems 65536 p).length := by unfold allN ints; rw [List.length_map]
theorem take_all (p : Nat → Bool) (m : Nat) : (allN p).take m = ints ((elems 65536 p).take m) := by unfold allN ints; rw [List.map_take]
theorem j1_ok {s t : List Int} (hs : Bs s) (ht : Bs t) (a : Int) (m : Nat) (head : List Int) (hh : head = (allN (bit s)).take m) {k : Nat} (hk : 300000 < k) :
    winnowerlaw09_BitsetTells.j1 k a (m : Int) (allN (bit s)) (allN (bit t)) true true true true true true true head s t = some true := by
  obtain ⟨k, rfl⟩ : ∃ m, k = m + 1 := ⟨k - 1, by omega⟩
  have hl := allN_len (bit s)
  rw [winnowerlaw09_BitsetTells.j1, list_tell hs, Option.bind_some, ints_same (by rw [hh, take_all, most_, if_neg (by omega), Int.toNat_natCast]), Option.bind_some, winnowerref01_Ints.f, Option.bind_some, if_pos rfl, if_pos rfl, if_pos rfl, if_pos rfl, if_pos rfl, if_pos rfl, if_pos rfl, if_pos rfl,
    count_tell hs (by omega), Option.bind_some, if_pos (by rw [len_all]), has_tell hs.1, Option.bind_some, refhas_tell (by omega) a (by omega), Option.bind_some, has_all hs, beq_self_eq_true, if_pos rfl, same_all hs ht (by omega), Option.bind_some, beq_self_eq_true]
theorem j0_ok {k : Nat} (hk : 300002 < k) (l0 l1 : List Int) (a n : Int) (m : Nat) (h0 : l0.length ≤ 60) (h1 : l1.length ≤ 60) : winnowerlaw09_BitsetTells.j0 k l0 l1 a n (m : Int) true false = some true := by
  obtain ⟨k, rfl⟩ : ∃ m, k = m + 1 := ⟨k - 1, by omega⟩
  have r0 := refof_tell (l := l0) (by omega) (k := k) (by omega)
  have r1 := refof_tell (l := l1) (by omega) (k := k) (by omega)
  obtain ⟨s, hs'⟩ : ∃ s, ofL [] l0 = s := ⟨_, rfl⟩
  obtain ⟨t, ht'⟩ : ∃ s, ofL [] l1 = s := ⟨_, rfl⟩
  have hs : Bs s := hs' ▸ ofL_ok0 l0
  have ht : Bs t := ht' ▸ ofL_ok0 l1
  rw [hs'] at r0
  rw [ht'] at r1
  have hl := allN_len (bit s)
  have kk : 2000 < k := by omega
  have e1 : allN (bit (withL s a)) = refWithL (allN (bit s)) a := by rw [refWithL_all]; exact allN_congr fun i _ => withL_bit hs a i
  have e2 : allN (bit (withoutL s a)) = allN fun i => bit s i && decide ((i : Int) ≠ a) := allN_congr fun i _ => withoutL_bit hs a i
  have e3 : allN (bit (andL s t)) = allN fun i => bit s i && bit t i := allN_congr fun i _ => andL_bit hs ht i
  have e4 : allN (bit (orL s t)) = allN fun i => bit s i || bit t i := allN_congr fun i _ => orL_bit hs ht i
  have e5 : allN (bit (notL s n)) = allN fun i => decide (i < uptoN n) && !bit s i := allN_congr fun i _ => notL_bit hs n i
  have e6 : allN (bit (uptoL (uptoN n))) = allN fun i => decide (i < uptoN n) := allN_congr fun i _ => uptoL_bit _ i
  have w1 := refwith_tell (l := allN (bit s)) (by omega) a (k := k) (by omega)
  have w2 := refwithout_tell (bit s) a (k := k) (by omega)
  have w3 := refand_tell (bit s) (bit t) (k := k) (by omega)
  have w4 := refor_tell (bit s) (bit t) (k := k) (by omega)
  have w5 := refnot_tell (bit s) n (k := k) (by omega)
  have w6 := refupto_tell n (k := k) (by omega)
  rw [winnowerlaw09_BitsetTells.j0, if_neg Bool.false_ne_true, bitset_Of.f, hs', Option.bind_some, bitset_Of.f, ht', Option.bind_some, r0, Option.bind_some, r1, Option.bind_some, list_all hs, Option.bind_some, ints_same rfl, Option.bind_some,
    with_tell hs a kk, Option.bind_some, list_all (withL_ok hs a), Option.bind_some, w1, Option.bind_some, ints_same e1, Option.bind_some,
    without_tell hs, Option.bind_some, list_all (withoutL_ok hs a), Option.bind_some, w2, Option.bind_some, ints_same e2, Option.bind_some,
    and_tell hs, Option.bind_some, list_all (andL_ok hs ht), Option.bind_some, w3, Option.bind_some, ints_same e3, Option.bind_some,
    or_tell hs ht, Option.bind_some, list_all (orL_ok hs ht), Option.bind_some, w4, Option.bind_some, ints_same e4, Option.bind_some,
    not_tell, Option.bind_some, list_all (notL_ok hs n), Option.bind_some, w5, Option.bind_some, ints_same e5, Option.bind_some,
    upto_tell, Option.bind_some, list_all (uptoL_ok (uptoN_le n)), Option.bind_some, w6, Option.bind_some, ints_same e6, Option.bind_some]
  by_cases hm : ((allN (bit s)).length : Int) > (m : Int)
  · rw [if_pos hm, if_pos (by omega), if_pos (by omega), Int.toNat_natCast]
    exact j1_ok hs ht a m _ rfl (by omega)
  · rw [if_neg hm]
    exact j1_ok hs ht a m _ (List.take_of_length_le (by omega)).symm (by omega)
theorem BitsetTells : winnowerlaw09_BitsetTells.Pure := by
  intro l0 l1 a n most _ _ _ _ _ _ _ _ _
  obtain ⟨k, hk⟩ : ∃ k, k = 300010 := ⟨_, rfl⟩
  refine ⟨k + 1, ?_⟩
  unfold winnowerlaw09_BitsetTells.f
  obtain ⟨b0, hb0, h0⟩ := few_tell l0 (k := k + 1) (by omega)
  obtain ⟨b1, hb1, h1⟩ := few_tell l1 (k := k + 1) (by omega)
  have stop : winnowerlaw09_BitsetTells.j0 (k + 1) l0 l1 a n most true true = some true := by rw [winnowerlaw09_BitsetTells.j0, if_pos rfl]
  rw [winnowerlaw09_awake.f, Option.bind_some, hb0, Option.bind_some, hb1, Option.bind_some, if_pos rfl]
  cases b0 with
  | false => rw [if_neg Bool.false_ne_true]; exact stop
  | true =>
    rw [if_pos rfl]
    cases b1 with
    | false => rw [if_neg Bool.false_ne_true]; exact stop
    | true =>
      rw [if_pos rfl]
      by_cases h2 : n > 3000
      · rw [if_pos h2]; exact stop
      · rw [if_neg h2]
        by_cases h3 : most < 0
        · rw [decide_eq_true h3]; exact stop
        · rw [decide_eq_false h3]
          obtain ⟨m, rfl⟩ := Int.eq_ofNat_of_zero_le (show 0 ≤ most by omega)
          exact j0_ok (by omega) l0 l1 a n m (h0 rfl) (h1 rfl)
end Go.Proofs.YteaiaeejdcmefaaDoor.Pure
