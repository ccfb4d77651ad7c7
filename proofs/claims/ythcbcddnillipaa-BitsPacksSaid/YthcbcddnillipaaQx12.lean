/- The machine side of laws, written by wip/tools/myprint.py (the printer's way, with functions proved by hand put in); Lean checks it. -/
import Derived.Test.YthcbcddnillipaaHbitnum
import Derived.Test.YthcbcddnillipaaQx0
import Derived.Test.YthcbcddnillipaaQx11
namespace Go.Proofs.Ythcbcddnillipaa.Q
open Go.RowKit Go.Proofs.YthcbcddnillipaaW.PrintWords Go.Proofs.YthcbcddnillipaaW.PrintLast Go.Proofs.YthcbcddnillipaaW.PrintMore
attribute [local go_sem] max2_int min2_int max_two min_two max_three min_three max_four min_four   -- for this text's walks alone
set_option linter.unusedVariables false
set_option linter.unusedSimpArgs false

-- BY HAND: Derived.Test.YthcbcddnillipaaHbitnum
/-! ### winnowerref02_Width: function 14 -/
-- HAND winnower/winnowerref02.Width over
-- IMPORT Derived.Test.YthcbcddnillipaaHbitnum
open Go.Proofs.Ythcbcddnillipaa.Hnum Go.Proofs.Ythcbcddnillipaa.Hbits Go.Proofs.Ythcbcddnillipaa.Hbitnum
theorem winnowerref02_Width.tell (m : Nat) : ∀ (n s kq : Nat), n ≤ m → n ≤ 9223372036854775807 → s + Lib.bitLen n ≤ 1000 → n < kq → winnowerref02_Width_p.l0 kq (s : Int) (n : Int) = some (((s + Lib.bitLen n : Nat) : Int)) := by
  induction m with
  | zero =>
    intro n s kq hm hn hs hq
    obtain ⟨q, rfl⟩ : ∃ m, kq = m + 1 := ⟨kq - 1, by omega⟩
    obtain rfl : n = 0 := by omega
    rw [winnowerref02_Width_p.l0, if_neg (by decide), show Lib.bitLen 0 = 0 from by decide, Nat.add_zero]
  | succ m ih =>
    intro n s kq hm hn hs hq
    obtain ⟨q, rfl⟩ : ∃ m, kq = m + 1 := ⟨kq - 1, by omega⟩
    rw [winnowerref02_Width_p.l0]
    by_cases h0 : n = 0
    · subst h0
      rw [if_neg (by decide), show Lib.bitLen 0 = 0 from by decide, Nat.add_zero]
    · have e3 := Lib.bitLen_half n h0 (by rw [show (2 : Nat) ^ 64 = 18446744073709551616 from by decide]; omega)
      have e1 : wrap64 ((s : Int) + 1) = ((s + 1 : Nat) : Int) := by rw [wrap_id (by omega) (by omega)]; omega
      have e2 : wrap64 (Int.tdiv (n : Int) 2) = ((n / 2 : Nat) : Int) := by rw [Int.tdiv_eq_ediv_of_nonneg (by omega), wrap_id (by omega) (by omega)]; omega
      rw [if_pos (by omega), e1, e2, ih (n / 2) (s + 1) q (by omega) (by omega) (by omega) (by omega), show s + 1 + Lib.bitLen (n / 2) = s + Lib.bitLen n from by omega]
def winnowerref02_Width.f (a0 : Int) : Option Int := if i64 a0 then some (wide a0) else none
theorem winnowerref02_Width.fits {a0 r : Int} (h : winnowerref02_Width.f a0 = some r) : ∃ k, winnowerref02_Width_p.f k a0 = some r := by
  unfold winnowerref02_Width.f at h
  by_cases hi : i64 a0
  · rw [if_pos hi] at h
    rw [← h]
    unfold i64 at hi
    unfold winnowerref02_Width_p.f wide
    by_cases h0 : 0 ≤ a0
    · obtain ⟨n, rfl⟩ := Int.eq_ofNat_of_zero_le h0
      have hl := (bitLen_iff (x := n) (u := 64) (by rw [show (2 : Nat) ^ 64 = 18446744073709551616 from by decide]; omega)).2 (by rw [show (2 : Nat) ^ 64 = 18446744073709551616 from by decide]; omega)
      refine ⟨n + 1, ?_⟩
      have := winnowerref02_Width.tell n n 0 (n + 1) (by omega) (by omega) (by omega) (by omega)
      rw [Nat.zero_add] at this
      exact this
    · refine ⟨1, ?_⟩
      rw [winnowerref02_Width_p.l0, if_neg (by omega), show a0.toNat = 0 from by omega]
      rfl
  · rw [if_neg hi] at h; cases h
theorem winnowerref02_Width.calls (a0 : Int) (r : Int) (w : World) (h : winnowerref02_Width.f a0 = some r) :
    Calls Try.prog 14 #[.int .i64 a0] w fun e w' => e = .returned (.int .i64 r) ∧ Drawn0 w w' := by
  obtain ⟨k, hk⟩ := winnowerref02_Width.fits  h
  exact winnowerref02_Width_p.calls k a0 r w hk


end Go.Proofs.Ythcbcddnillipaa.Q
