/- The machine side of laws, written by wip/tools/myprint.py (the printer's way, with functions proved by hand put in); Lean checks it. -/
import Derived.Test.YtgjmpancofjjbaaHnum
import Derived.Test.YtgjmpancofjjbaaHval
import Derived.Test.YtgjmpancofjjbaaQx0
import Derived.Test.YtgjmpancofjjbaaQx7
import Derived.Test.YtgjmpancofjjbaaQx8
namespace Go.Proofs.Ytgjmpancofjjbaa.Q
open Go.RowKit Go.Proofs.YtgjmpancofjjbaaW.PrintWords Go.Proofs.YtgjmpancofjjbaaW.PrintLast Go.Proofs.YtgjmpancofjjbaaW.PrintMore
attribute [local go_sem] max2_int min2_int max_two min_two max_three min_three max_four min_four   -- for this text's walks alone
set_option linter.unusedVariables false
set_option linter.unusedSimpArgs false

-- BY HAND: Derived.Test.YtgjmpancofjjbaaHnum,Derived.Test.YtgjmpancofjjbaaHval
/-! ### winnowerref06_Order: function 12 -/
-- HAND winnower/winnowerref06.Order over
-- IMPORT Derived.Test.YtgjmpancofjjbaaHnum
-- IMPORT Derived.Test.YtgjmpancofjjbaaHval
open Go.Proofs.Ytgjmpancofjjbaa.Hnum Go.Proofs.Ytgjmpancofjjbaa.Hval
def winnowerref06_Order.f (a0_0 a0_1 : Int) (a0_2 : ByteArray) (a0_3 : Bool) (a1_0 a1_1 : Int) (a1_2 : ByteArray) (a1_3 : Bool) : Option Int := if a0_2.size ≤ 9223372036854775807 then some (V.ord ⟨a0_0, a0_1, a0_2, a0_3⟩ ⟨a1_0, a1_1, a1_2, a1_3⟩) else none
theorem winnowerref06_Order.fits {a0_0 a0_1 : Int} {a0_2 : ByteArray} {a0_3 : Bool} {a1_0 a1_1 : Int} {a1_2 : ByteArray} {a1_3 : Bool} {r : Int} (h : winnowerref06_Order.f a0_0 a0_1 a0_2 a0_3 a1_0 a1_1 a1_2 a1_3 = some r) : ∃ k, winnowerref06_Order_p.f k a0_0 a0_1 a0_2 a0_3 a1_0 a1_1 a1_2 a1_3 = some r := by
  unfold winnowerref06_Order.f at h
  by_cases hl : a0_2.size ≤ 9223372036854775807
  · rw [if_pos hl] at h
    refine ⟨1, ?_⟩
    rw [← h]
    unfold winnowerref06_Order_p.f V.ord
    simp only
    by_cases hk : a0_0 = a1_0
    · rw [if_neg (show ¬ a0_0 < a1_0 by omega), if_neg (show ¬ a0_0 > a1_0 by omega), if_pos hk]
      by_cases c1 : a0_0 = 1
      · rw [if_pos c1, if_pos c1]
        unfold cmpI
        split
        · rfl
        · split <;> rfl
      · rw [if_neg c1, if_neg c1]
        by_cases c2 : a0_0 = 2
        · rw [if_pos c2, if_pos c2]
          unfold winnowerref06_text.f
          rw [if_pos hl]; rfl
        · rw [if_neg c2, if_neg c2]
          by_cases c3 : a0_0 = 3
          · rw [if_pos c3, if_pos c3]
            cases a0_3 <;> cases a1_3 <;> rfl
          · rw [if_neg c3, if_neg c3]
    · rw [if_neg hk]
      unfold cmpI
      split
      · rfl
      · rw [if_pos (by omega), if_pos (by omega)]
  · rw [if_neg hl] at h; cases h
theorem winnowerref06_Order.calls (a0_0 : Int) (a0_1 : Int) (a0_2 : ByteArray) (a0_3 : Bool) (a1_0 : Int) (a1_1 : Int) (a1_2 : ByteArray) (a1_3 : Bool) (r : Int) (w : World) (h : winnowerref06_Order.f a0_0 a0_1 a0_2 a0_3 a1_0 a1_1 a1_2 a1_3 = some r) :
    Calls Try.prog 12 #[.agg #[.int .i64 a0_0, .int .i64 a0_1, .string a0_2, .bool a0_3], .agg #[.int .i64 a1_0, .int .i64 a1_1, .string a1_2, .bool a1_3]] w fun e w' => e = .returned (.int .i64 r) ∧ Below w.heap.size w w' := by
  obtain ⟨k, hk⟩ := winnowerref06_Order.fits  h
  exact winnowerref06_Order_p.calls k a0_0 a0_1 a0_2 a0_3 a1_0 a1_1 a1_2 a1_3 r w hk


end Go.Proofs.Ytgjmpancofjjbaa.Q
