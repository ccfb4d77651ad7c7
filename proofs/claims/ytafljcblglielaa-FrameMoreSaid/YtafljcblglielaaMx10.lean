/- The machine side of laws, written by wip/tools/myprint.py (the printer's way, with functions proved by hand put in); Lean checks it. -/
import Derived.Test.YtafljcblglielaaHnum
import Derived.Test.YtafljcblglielaaMx0
import Derived.Test.YtafljcblglielaaMx9
namespace Go.Proofs.Ytafljcblglielaa.M
open Go.RowKit Go.Proofs.YtafljcblglielaaW.PrintWords Go.Proofs.YtafljcblglielaaW.PrintLast Go.Proofs.YtafljcblglielaaW.PrintMore
attribute [local go_sem] max2_int min2_int max_two min_two max_three min_three max_four min_four   -- for this text's walks alone
set_option linter.unusedVariables false
set_option linter.unusedSimpArgs false

-- BY HAND: Derived.Test.YtafljcblglielaaHnum
/-! ### winnowerref01_digits: function 26 -/
-- HAND winnower/winnowerref01.digits over
-- IMPORT Derived.Test.YtafljcblglielaaHnum
open Go.Proofs.Ytafljcblglielaa.Hnum
theorem winnowerref01_digits.tell (m : Nat) : ∀ (h o kq : Nat), h ≤ m → h ≤ 9223372036854775807 → o ≤ 1 → h < kq → winnowerref01_digits_p.f kq (h : Int) (o : Int) = some (digs (2 * h + o)) := by
  induction m with
  | zero =>
    intro h o kq hm hh ho hq
    obtain ⟨q, rfl⟩ : ∃ m, kq = m + 1 := ⟨kq - 1, by omega⟩
    simp only [winnowerref01_digits_p.f]
    rw [if_pos (by omega), digs_last (by omega), wrap_id (x := 2 * (h : Int)) (by omega) (by omega), wrap_id (by omega) (by omega), show (2 * (h : Int) + (o : Int)) % 256 = ((2 * h + o : Nat) : Int) from by omega]
  | succ m ih =>
    intro h o kq hm hh ho hq
    obtain ⟨q, rfl⟩ : ∃ m, kq = m + 1 := ⟨kq - 1, by omega⟩
    simp only [winnowerref01_digits_p.f]
    by_cases h64 : h < 64
    · rw [if_pos (by omega), digs_last (by omega), wrap_id (x := 2 * (h : Int)) (by omega) (by omega), wrap_id (by omega) (by omega), show (2 * (h : Int) + (o : Int)) % 256 = ((2 * h + o : Nat) : Int) from by omega]
    · rw [if_neg (by omega)]
      have e1 : wrap64 (Int.tdiv (h : Int) 64) = ((h / 64 : Nat) : Int) := by rw [Int.tdiv_eq_ediv_of_nonneg (by omega)]; unfold wrap64; omega
      have e2 : wrap64 (Int.tdiv ((h / 64 : Nat) : Int) 2) = ((h / 64 / 2 : Nat) : Int) := by rw [Int.tdiv_eq_ediv_of_nonneg (by omega)]; unfold wrap64; omega
      have e3 : Int.tmod ((h / 64 : Nat) : Int) 2 = ((h / 64 % 2 : Nat) : Int) := by rw [Int.tmod_eq_emod_of_nonneg (by omega)]; omega
      have e4 : Int.tmod (h : Int) 64 = ((h % 64 : Nat) : Int) := by rw [Int.tmod_eq_emod_of_nonneg (by omega)]; omega
      rw [e1, e2, e3, e4, ih (h / 64 / 2) (h / 64 % 2) q (by omega) (by omega) (by omega) (by omega), Option.bind_some, Option.bind_some]
      have hl := digs_le_ten (u := 2 * (h / 64 / 2) + h / 64 % 2) (by omega)
      rw [if_pos (by simp only [List.length_singleton]; omega), digs_more (u := 2 * h + o) (by omega)]
      rw [List.singleton_append]
      have e5 : (wrap64 ((wrap64 ((wrap64 (2 * ((h % 64 : Nat) : Int))) + (o : Int))) + 128)) % 256 = (((2 * h + o) % 128 + 128 : Nat) : Int) := by
        rw [wrap_id (x := 2 * ((h % 64 : Nat) : Int)) (by omega) (by omega), wrap_id (x := 2 * ((h % 64 : Nat) : Int) + (o : Int)) (by omega) (by omega), wrap_id (by omega) (by omega)]
        exact half_byte h o ho
      rw [e5, half_digit h o ho]
def winnowerref01_digits.f (a0 a1 : Int) : Option (List Int) := if 0 ≤ a0 ∧ a0 ≤ 9223372036854775807 ∧ 0 ≤ a1 ∧ a1 ≤ 1 then some (digs (2 * a0 + a1).toNat) else none
theorem winnowerref01_digits.calls (a0 : Int) (a1 : Int) (r : List Int) (w : World) (h : winnowerref01_digits.f a0 a1 = some r) :
    Calls Try.prog 26 #[.int .i64 a0, .int .i64 a1] w fun e w' => ∃ v0_ : Value, e = .returned (v0_) ∧ Kd.R (Kd.int .u8) 5 w' w.heap.size (fun _ => True) v0_ r ∧ Below w.heap.size w w' := by
  unfold winnowerref01_digits.f at h
  by_cases hc : 0 ≤ a0 ∧ a0 ≤ 9223372036854775807 ∧ 0 ≤ a1 ∧ a1 ≤ 1
  · rw [if_pos hc] at h
    obtain ⟨h0, h1, h2, h3⟩ := hc
    obtain ⟨u, rfl⟩ := Int.eq_ofNat_of_zero_le h0
    obtain ⟨o, rfl⟩ := Int.eq_ofNat_of_zero_le h2
    refine winnowerref01_digits_p.calls (u + 1) u o r w ?_
    rw [← h, winnowerref01_digits.tell u u o (u + 1) (by omega) (by omega) (by omega) (by omega), show (2 * (u : Int) + (o : Int)).toNat = 2 * u + o from by omega]
  · rw [if_neg hc] at h; cases h

end Go.Proofs.Ytafljcblglielaa.M
