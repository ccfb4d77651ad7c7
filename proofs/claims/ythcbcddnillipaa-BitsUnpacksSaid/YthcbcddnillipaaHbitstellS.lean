/- What the functions of layer 2 answer, in plain words. -/
import Derived.Test.YthcbcddnillipaaHbitnum
import Derived.Test.YthcbcddnillipaaSx0
import Derived.Test.YthcbcddnillipaaSx1
namespace Go.Proofs.Ythcbcddnillipaa.S
open Go.RowKit Go.Proofs.YthcbcddnillipaaW.PrintWords Go.Proofs.YthcbcddnillipaaW.PrintLast Go.Proofs.YthcbcddnillipaaW.PrintMore
attribute [local go_sem] max2_int min2_int max_two min_two max_three min_three max_four min_four   -- for this text's walks alone
set_option linter.unusedVariables false
set_option linter.unusedSimpArgs false

-- SAYS What the functions of layer 2 answer, in plain words.
-- FUNCS winnower/bits.Pack winnower/bits.Unpack winnower/bits.At winnower/bits.Width
-- NEEDS bits_Pack.f bits_Unpack.f bits_At.f bits_Width.f bits_Width.tell bits_number.tell
-- IMPORT Derived.Test.YthcbcddnillipaaHbitnum
open Go.Proofs.Ythcbcddnillipaa.Hnum Go.Proofs.Ythcbcddnillipaa.Hbits Go.Proofs.Ythcbcddnillipaa.Hbitnum
theorem Pack_tell {l : List Int} {a : Int} (h : ∀ x ∈ l, i64 x) : bits_Pack.f l a = some (packT l a) := by
  unfold bits_Pack.f packT
  by_cases h0 : a < 0 ∨ 62 < a
  · rw [if_pos h0, if_pos h0]
  · rw [if_neg h0, if_neg h0]
    unfold packS
    by_cases h1 : 4096 < l.length
    · rw [if_pos h1, if_pos h1]
    · rw [if_neg h1, if_neg h1, if_pos h]
      by_cases h2 : ∀ x ∈ l, good a.toNat x
      · rw [if_pos h2, if_pos h2]; rfl
      · rw [if_neg h2, if_neg h2]
theorem Unpack_tell {l : List Int} {n a : Int} (hb : Bytes l) (hl : l.length ≤ 1000000) : bits_Unpack.f l n a = some (unpackT l n a) := by
  unfold bits_Unpack.f; rw [if_pos ⟨hb, hl⟩]
theorem At_tell {l : List Int} {i a : Int} (hb : Bytes l) (hl : l.length ≤ 1000000) (h1 : i64 i) (h2 : i64 a) : bits_At.f l i a = some (atT l i a) := by
  unfold bits_At.f atT
  unfold i64 at h1 h2
  by_cases hm : a < 0 ∨ 62 < a
  · have hmay : bits_may.f a = some false := by
      unfold bits_may.f
      by_cases h0 : a ≥ 0
      · rw [if_pos h0, decide_eq_false (by omega)]
      · rw [if_neg h0]
    rw [hmay, Option.bind_some, if_neg (by decide), if_pos (show a < 0 ∨ 62 < a ∨ i < 0 ∨ 1099511627776 < i ∨ 8 * (l.length : Int) < (i + 1) * a from hm.elim .inl (fun h => .inr (.inl h)))]
  · have hmay : bits_may.f a = some true := by unfold bits_may.f; rw [if_pos (by omega), decide_eq_true (by omega)]
    rw [hmay, Option.bind_some, if_pos rfl]
    by_cases c2 : i < 0
    · rw [if_pos c2, if_pos (show a < 0 ∨ 62 < a ∨ i < 0 ∨ 1099511627776 < i ∨ 8 * (l.length : Int) < (i + 1) * a from .inr (.inr (.inl c2)))]
    · rw [if_neg c2]
      by_cases c3 : i > 1099511627776
      · rw [if_pos c3, if_pos (show a < 0 ∨ 62 < a ∨ i < 0 ∨ 1099511627776 < i ∨ 8 * (l.length : Int) < (i + 1) * a from .inr (.inr (.inr (.inl c3))))]
      · rw [if_neg c3]
        obtain ⟨j, rfl⟩ := Int.eq_ofNat_of_zero_le (show 0 ≤ i by omega)
        obtain ⟨w, rfl⟩ := Int.eq_ofNat_of_zero_le (show 0 ≤ a by omega)
        have hw : w ≤ 62 := by omega
        have hj : j ≤ 1099511627776 := by omega
        have hm2 : (j + 1) * w ≤ 1099511627777 * 62 := Nat.mul_le_mul (by omega) hw
        have hs : (j + 1) * w = j * w + w := by rw [Nat.add_mul, Nat.one_mul]
        have e2 : ((j : Int) + 1) * (w : Int) = ((j * w + w : Nat) : Int) := by rw [← hs, Int.natCast_mul]; rfl
        have hnot : ¬ ((w : Int) < 0 ∨ 62 < (w : Int) ∨ (j : Int) < 0 ∨ 1099511627776 < (j : Int)) := by omega
        have hnum := fun hfit => bits_number.tell (l := l) (i := j) (w := w) hb hl hw hj hfit
        rw [wrap_id (x := (j : Int) + 1) (by omega) (by omega), e2]
        have hq : j * w + w ≤ 1099511627777 * 62 := by omega
        clear hm2 hs
        generalize hg : j * w + w = q at hq hnum
        have e3 : wrap64 ((q : Nat) : Int) = ((q : Nat) : Int) := wrap_id (by omega) (by omega)
        have e4 : wrap64 (8 * (l.length : Int)) = 8 * (l.length : Int) := wrap_id (by omega) (by omega)
        rw [e3, e4]
        by_cases c4 : (q : Int) > 8 * (l.length : Int)
        · rw [if_pos c4, if_pos (show (w : Int) < 0 ∨ 62 < (w : Int) ∨ (j : Int) < 0 ∨ 1099511627776 < (j : Int) ∨ 8 * (l.length : Int) < (q : Int) from .inr (.inr (.inr (.inr c4))))]
        · rw [if_neg c4, hnum (by omega), Option.bind_some, if_neg (show ¬ ((w : Int) < 0 ∨ 62 < (w : Int) ∨ (j : Int) < 0 ∨ 1099511627776 < (j : Int) ∨ 8 * (l.length : Int) < (q : Int)) from by omega), Int.toNat_natCast, Int.toNat_natCast]

end Go.Proofs.Ythcbcddnillipaa.S
