/- The machine side of laws, written by wip/tools/myprint.py (the printer's way, with functions proved by hand put in); Lean checks it. -/
import Derived.Test.YtdbdgcnblpeciaaHnum
import Derived.Test.YtdbdgcnblpeciaaRx0
import Derived.Test.YtdbdgcnblpeciaaRx2
import Derived.Test.YtdbdgcnblpeciaaRx4
namespace Go.Proofs.Ytdbdgcnblpeciaa.R
open Go.RowKit Go.Proofs.YtdbdgcnblpeciaaW.PrintWords Go.Proofs.YtdbdgcnblpeciaaW.PrintLast Go.Proofs.YtdbdgcnblpeciaaW.PrintMore
attribute [local go_sem] max2_int min2_int max_two min_two max_three min_three max_four min_four   -- for this text's walks alone
set_option linter.unusedVariables false
set_option linter.unusedSimpArgs false

-- BY HAND: Derived.Test.YtdbdgcnblpeciaaHnum
/-! ### num_Size: function 15 -/
-- HAND winnower/num.Size over
-- IMPORT Derived.Test.YtdbdgcnblpeciaaHnum
open Go.Proofs.Ytdbdgcnblpeciaa.Hnum
theorem num_fold.tell {a : Int} (h : i64 a) : num_fold.f a = some (fold a : Int) := by unfold num_fold.f; rw [fold_bits h]
theorem num_Size.tell (u : Nat) : ∀ (s kq : Nat), u < 18446744073709551616 → s + (digs u).length ≤ 100 → u < kq → num_Size_p.l0 kq (s : Int) (u : Int) = some ((s + (digs u).length - 1 : Nat) : Int) := by
  induction u using digs.induct with
  | case1 u h =>
    intro s kq hu hs hq
    obtain ⟨q, rfl⟩ : ∃ m, kq = m + 1 := ⟨kq - 1, by omega⟩
    simp only [num_Size_p.l0]
    rw [if_neg (by omega), digs_last h]
    simp
  | case2 u h ih =>
    intro s kq hu hs hq
    obtain ⟨q, rfl⟩ : ∃ m, kq = m + 1 := ⟨kq - 1, by omega⟩
    simp only [num_Size_p.l0]
    have hl := digs_le_ten (u := u / 128) (by omega)
    have hp := digs_pos (u / 128)
    rw [if_pos (by omega), show wrap64 ((s : Int) + 1) = ((s + 1 : Nat) : Int) from by unfold wrap64; omega,
      show IntKind.u64.wrap (Int.tdiv (u : Int) 128) = ((u / 128 : Nat) : Int) from by rw [Int.tdiv_eq_ediv_of_nonneg (by omega), wrap_u64]; omega, digs_more (by omega), List.length_cons]
    rw [digs_more (by omega), List.length_cons] at hs
    rw [ih (s + 1) q (by omega) (by omega) (by omega)]
    congr 2; omega
def num_Size.f (a0 : Int) : Option Int := if i64 a0 then some ((digs (fold a0)).length : Int) else none
theorem num_Size.calls (a0 : Int) (r : Int) (w : World) (h : num_Size.f a0 = some r) :
    Calls Try.prog 15 #[.int .i64 a0] w fun e w' => e = .returned (.int .i64 r) ∧ Drawn0 w w' := by
  unfold num_Size.f at h
  by_cases hi : i64 a0
  · rw [if_pos hi] at h
    refine num_Size_p.calls (fold a0 + 1) a0 r w ?_
    rw [← h]
    unfold num_Size_p.f
    have hl := digs_le_ten (fold_lt hi)
    rw [num_fold.tell hi, Option.bind_some, show (1 : Int) = ((1 : Nat) : Int) from rfl, num_Size.tell (fold a0) 1 _ (fold_lt hi) (by omega) (by omega)]
    congr 2; omega
  · rw [if_neg hi] at h; cases h

end Go.Proofs.Ytdbdgcnblpeciaa.R
