/- The machine side of laws, written by wip/tools/myprint.py (the printer's way, with functions proved by hand put in); Lean checks it. -/
import Derived.Test.YthcbcddnillipaaHbitnum
import Derived.Test.YthcbcddnillipaaQx0
import Derived.Test.YthcbcddnillipaaQx13
namespace Go.Proofs.Ythcbcddnillipaa.Q
open Go.RowKit Go.Proofs.YthcbcddnillipaaW.PrintWords Go.Proofs.YthcbcddnillipaaW.PrintLast Go.Proofs.YthcbcddnillipaaW.PrintMore
attribute [local go_sem] max2_int min2_int max_two min_two max_three min_three max_four min_four   -- for this text's walks alone
set_option linter.unusedVariables false
set_option linter.unusedSimpArgs false

-- BY HAND: Derived.Test.YthcbcddnillipaaHbitnum
/-! ### winnowerref02_number: function 24 -/
-- HAND winnower/winnowerref02.number over
-- IMPORT Derived.Test.YthcbcddnillipaaHbitnum
open Go.Proofs.Ythcbcddnillipaa.Hnum Go.Proofs.Ythcbcddnillipaa.Hbits Go.Proofs.Ythcbcddnillipaa.Hbitnum
theorem winnowerref02_number.tell (w : Nat) (hw : w ≤ 1000) : ∀ (d j n kq : Nat) (acc : List Int), j + d = w → acc.length ≤ 1000 → n ≤ 9223372036854775807 → d < kq → acc.length + d ≤ 1000 →
    winnowerref02_number_p.l0 kq (n : Int) (w : Int) acc (j : Int) = some (acc ++ bitsOf n d) := by
  intro d
  induction d with
  | zero =>
    intro j n kq acc hj ha hn hq hl
    obtain ⟨q, rfl⟩ : ∃ m, kq = m + 1 := ⟨kq - 1, by omega⟩
    rw [winnowerref02_number_p.l0, if_neg (by omega), bitsOf, List.append_nil]
  | succ d ih =>
    intro j n kq acc hj ha hn hq hl
    obtain ⟨q, rfl⟩ : ∃ m, kq = m + 1 := ⟨kq - 1, by omega⟩
    have e1 : wrap64 (Int.tdiv (n : Int) 2) = ((n / 2 : Nat) : Int) := by rw [Int.tdiv_eq_ediv_of_nonneg (by omega), wrap_id (by omega) (by omega)]; omega
    have e2 : Int.tmod (n : Int) 2 = ((n % 2 : Nat) : Int) := by rw [Int.tmod_eq_emod_of_nonneg (by omega)]; omega
    have e3 : wrap64 ((j : Int) + 1) = ((j + 1 : Nat) : Int) := by rw [wrap_id (by omega) (by omega)]; omega
    rw [winnowerref02_number_p.l0, if_pos (by omega), if_pos (by omega), e1, e2, e3, ih (j + 1) (n / 2) q _ (by omega) (by rw [List.length_append, List.length_singleton]; omega) (by omega) (by omega) (by rw [List.length_append, List.length_singleton]; omega),
      bitsOf, List.append_assoc, List.singleton_append]
def winnowerref02_number.f (a0 a1 : Int) : Option (List Int) := if 0 ≤ a0 ∧ a0 ≤ 9223372036854775807 ∧ a1 ≤ 1000 then some (bitsOf a0.toNat a1.toNat) else none
theorem winnowerref02_number.fits {a0 a1 : Int} {r : List Int} (h : winnowerref02_number.f a0 a1 = some r) : ∃ k, winnowerref02_number_p.f k a0 a1 = some r := by
  unfold winnowerref02_number.f at h
  by_cases hc : 0 ≤ a0 ∧ a0 ≤ 9223372036854775807 ∧ a1 ≤ 1000
  · rw [if_pos hc] at h
    rw [← h]
    obtain ⟨h0, h1, h2⟩ := hc
    obtain ⟨n, rfl⟩ := Int.eq_ofNat_of_zero_le h0
    refine ⟨a1.toNat + 1, ?_⟩
    unfold winnowerref02_number_p.f
    by_cases hw : 0 ≤ a1
    · obtain ⟨w, rfl⟩ := Int.eq_ofNat_of_zero_le hw
      have := winnowerref02_number.tell w (by omega) w 0 n (w + 1) [] (by omega) (by simp) (by omega) (by omega) (by simp; omega)
      rw [List.nil_append] at this
      rw [Int.toNat_natCast, Int.toNat_natCast]
      exact this
    · rw [show a1.toNat = 0 from by omega, winnowerref02_number_p.l0, if_neg (by omega)]
      rfl
  · rw [if_neg hc] at h; cases h
theorem winnowerref02_number.calls (a0 : Int) (a1 : Int) (r : List Int) (w : World) (h : winnowerref02_number.f a0 a1 = some r) :
    Calls Try.prog 24 #[.int .i64 a0, .int .i64 a1] w fun e w' => ∃ v0_ : Value, e = .returned (v0_) ∧ Kd.R (Kd.int .i64) 3 w' w.heap.size (fun _ => True) v0_ r ∧ Below w.heap.size w w' := by
  obtain ⟨k, hk⟩ := winnowerref02_number.fits  h
  exact winnowerref02_number_p.calls k a0 a1 r w hk


end Go.Proofs.Ythcbcddnillipaa.Q
