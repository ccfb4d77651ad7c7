/- The machine side of laws, written by wip/tools/myprint.py (the printer's way, with functions proved by hand put in); Lean checks it. -/
import Derived.Test.YtgjmpancofjjbaaQx0
namespace Go.Proofs.Ytgjmpancofjjbaa.Q
open Go.RowKit Go.Proofs.YtgjmpancofjjbaaW.PrintWords Go.Proofs.YtgjmpancofjjbaaW.PrintLast Go.Proofs.YtgjmpancofjjbaaW.PrintMore
attribute [local go_sem] max2_int min2_int max_two min_two max_three min_three max_four min_four   -- for this text's walks alone
set_option linter.unusedVariables false
set_option linter.unusedSimpArgs false

-- BY HAND: 
/-! ### value_May: function 22 -/
-- HAND winnower/value.May making
theorem eqV_ (d : Nat) (w : World) (x0 y0 : Int) (x1 y1 : Int) (x2 y2 : ByteArray) (x3 y3 : Bool) :
    (Op.equalIn (d + 2) 26 (.agg #[.int .i64 x0, .int .i64 x1, .string x2, .bool x3]) (.agg #[.int .i64 y0, .int .i64 y1, .string y2, .bool y3])).run Try.prog w = .ok (x0 == y0 && (x1 == y1 && (x2.toList == y2.toList && (x3 == y3)))) w := by
  refine eqA_of Try.underlying26 (by kernel_rfl) ?_
  refine eqf_cons (by rfl) (by go_simp; rfl) (by go_simp; rfl) (by go_simp) ?_
  refine eqf_cons (by rfl) (by go_simp; rfl) (by go_simp; rfl) (by go_simp) ?_
  refine eqf_cons (by rfl) (by go_simp; rfl) (by go_simp; rfl) (by go_simp) ?_
  exact eqf_last (by rfl) (by go_simp; rfl) (by go_simp; rfl) (by go_simp)
attribute [local go_sem high] eqV_
def value_May.f (a0_0 : Int) (a0_1 : Int) (a0_2 : ByteArray) (a0_3 : Bool) : Option (Bool) := if a0_0 = 1 then (some (a0_2.toList == ([] : List UInt8) && (!a0_3))) else (if a0_0 = 2 then (if (a0_2.size : Int) > 64 then (some false) else (some (a0_1 == 0 && (!a0_3)))) else (if a0_0 = 3 then (some (a0_1 == 0 && (a0_2.toList == ([] : List UInt8)))) else (if a0_0 = 0 then (some (a0_1 == 0 && (a0_2.toList == ([] : List UInt8) && (!a0_3)))) else (some false))))
set_option maxHeartbeats 8000000 in
set_option maxRecDepth 100000 in
theorem value_May.calls (a0_0 : Int) (a0_1 : Int) (a0_2 : ByteArray) (a0_3 : Bool) (r : Bool) (w : World) (h : value_May.f a0_0 a0_1 a0_2 a0_3 = some r) :
    Calls Try.prog 22 #[.agg #[.int .i64 a0_0, .int .i64 a0_1, .string a0_2, .bool a0_3]] w fun e w' => e = .returned (.bool r) ∧ Below w.heap.size w w' := by
  have huV := Try.underlying26
  have H : (if a0_0 = 1 then (some (a0_2.toList == ([] : List UInt8) && (!a0_3))) else (if a0_0 = 2 then (if (a0_2.size : Int) > 64 then (some false) else (some (a0_1 == 0 && (!a0_3)))) else (if a0_0 = 3 then (some (a0_1 == 0 && (a0_2.toList == ([] : List UInt8)))) else (if a0_0 = 0 then (some (a0_1 == 0 && (a0_2.toList == ([] : List UInt8) && (!a0_3)))) else (some false))))) = some r := h
  clear h
  by_cases c2 : a0_0 = 1
  · rw [if_pos c2] at H
    have c2b0 : (a0_0 == 1) = true := beq_iff_eq.mpr c2
    have c2b1 : (a0_0 != 1) = false := bne_eq_false_iff_eq.mpr c2
    clear c2
    obtain rfl := Option.some.inj H
    go_enter Try.func22, Try.ntmps22
    repeat (first | go_step)
    go_ret
    exact ⟨by first | rfl | (simp [List.isEmpty_eq_true]; done) | (simp [*]; done) | (cases hh : a0_2.toList <;> simp [*]), by repeat (first | exact Below.refl _ _ | apply below_alloc)⟩
  · rw [if_neg c2] at H
    have c2b0 : (a0_0 == 1) = false := beq_eq_false_iff_ne.mpr c2
    have c2b1 : (a0_0 != 1) = true := bne_iff_ne.mpr c2
    by_cases c9 : a0_0 = 2
    · rw [if_pos c9] at H
      have c9b0 : (a0_0 == 2) = true := beq_iff_eq.mpr c9
      have c9b1 : (a0_0 != 2) = false := bne_eq_false_iff_eq.mpr c9
      clear c9
      by_cases c10 : (a0_2.size : Int) > 64
      · rw [if_pos c10] at H
        have c10b0 : decide (64 < (a0_2.size : Int)) = true := decide_eq_true c10
        have c10b1 : decide (64 < a0_2.size) = true := decide_eq_true (by omega)
        clear c10
        obtain rfl := Option.some.inj H
        go_enter Try.func22, Try.ntmps22
        repeat (first | go_step)
        go_ret
        exact ⟨by first | rfl | (simp [List.isEmpty_eq_true]; done) | (simp [*]; done) | (cases hh : a0_2.toList <;> simp [*]), by repeat (first | exact Below.refl _ _ | apply below_alloc)⟩
      · rw [if_neg c10] at H
        have c10b0 : decide (64 < (a0_2.size : Int)) = false := decide_eq_false c10
        have c10b1 : decide (64 < a0_2.size) = false := decide_eq_false (by omega)
        clear c10
        obtain rfl := Option.some.inj H
        go_enter Try.func22, Try.ntmps22
        repeat (first | go_step)
        go_ret
        exact ⟨by first | rfl | (simp [List.isEmpty_eq_true]; done) | (simp [*]; done) | (cases hh : a0_2.toList <;> simp [*]), by repeat (first | exact Below.refl _ _ | apply below_alloc)⟩
    · rw [if_neg c9] at H
      have c9b0 : (a0_0 == 2) = false := beq_eq_false_iff_ne.mpr c9
      have c9b1 : (a0_0 != 2) = true := bne_iff_ne.mpr c9
      by_cases c23 : a0_0 = 3
      · rw [if_pos c23] at H
        have c23b0 : (a0_0 == 3) = true := beq_iff_eq.mpr c23
        have c23b1 : (a0_0 != 3) = false := bne_eq_false_iff_eq.mpr c23
        clear c23
        obtain rfl := Option.some.inj H
        go_enter Try.func22, Try.ntmps22
        repeat (first | go_step)
        go_ret
        exact ⟨by first | rfl | (simp [List.isEmpty_eq_true]; done) | (simp [*]; done) | (cases hh : a0_2.toList <;> simp [*]), by repeat (first | exact Below.refl _ _ | apply below_alloc)⟩
      · rw [if_neg c23] at H
        have c23b0 : (a0_0 == 3) = false := beq_eq_false_iff_ne.mpr c23
        have c23b1 : (a0_0 != 3) = true := bne_iff_ne.mpr c23
        by_cases c30 : a0_0 = 0
        · rw [if_pos c30] at H
          have c30b0 : (a0_0 == 0) = true := beq_iff_eq.mpr c30
          have c30b1 : (a0_0 != 0) = false := bne_eq_false_iff_eq.mpr c30
          clear c30
          obtain rfl := Option.some.inj H
          go_enter Try.func22, Try.ntmps22
          repeat (first | go_step)
          go_ret
          exact ⟨by first | rfl | (simp [List.isEmpty_eq_true]; done) | (simp [*]; done) | (cases hh : a0_2.toList <;> simp [*]), by repeat (first | exact Below.refl _ _ | apply below_alloc)⟩
        · rw [if_neg c30] at H
          have c30b0 : (a0_0 == 0) = false := beq_eq_false_iff_ne.mpr c30
          have c30b1 : (a0_0 != 0) = true := bne_iff_ne.mpr c30
          obtain rfl := Option.some.inj H
          go_enter Try.func22, Try.ntmps22
          repeat (first | go_step)
          go_ret
          exact ⟨by first | rfl | (simp [List.isEmpty_eq_true]; done) | (simp [*]; done) | (cases hh : a0_2.toList <;> simp [*]), by repeat (first | exact Below.refl _ _ | apply below_alloc)⟩


end Go.Proofs.Ytgjmpancofjjbaa.Q
