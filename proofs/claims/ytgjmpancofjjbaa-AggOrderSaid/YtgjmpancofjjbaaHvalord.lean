/- What May and Order of layer 6 answer, in plain words. -/
import Derived.Test.YtgjmpancofjjbaaHnum
import Derived.Test.YtgjmpancofjjbaaHval
import Derived.Test.YtgjmpancofjjbaaQx0
import Derived.Test.YtgjmpancofjjbaaQx4
import Derived.Test.YtgjmpancofjjbaaQx5
namespace Go.Proofs.Ytgjmpancofjjbaa.Q
open Go.RowKit Go.Proofs.YtgjmpancofjjbaaW.PrintWords Go.Proofs.YtgjmpancofjjbaaW.PrintLast Go.Proofs.YtgjmpancofjjbaaW.PrintMore
attribute [local go_sem] max2_int min2_int max_two min_two max_three min_three max_four min_four   -- for this text's walks alone
set_option linter.unusedVariables false
set_option linter.unusedSimpArgs false

-- SAYS What May and Order of layer 6 answer, in plain words.
-- FUNCS winnower/value.Order winnower/value.May
-- NEEDS value_May.f value_Order.f value_truth.f cmp_Compare_int.f cmp_Compare_string.f cmp_isNaN_int.f cmp_isNaN_string.f
-- IMPORT Derived.Test.YtgjmpancofjjbaaHnum
-- IMPORT Derived.Test.YtgjmpancofjjbaaHval
open Go.Proofs.Ytgjmpancofjjbaa.Hnum Go.Proofs.Ytgjmpancofjjbaa.Hval
theorem value_May.tell (k i : Int) (s : ByteArray) (b : Bool) : value_May.f k i s b = some (V.may ⟨k, i, s, b⟩) := by
  unfold value_May.f V.may
  simp only
  split
  · rfl
  · split
    · split <;> rfl
    · split
      · rfl
      · split <;> rfl
theorem value_truth.tell (b : Bool) : value_truth.f b = some (tr b) := by unfold value_truth.f tr; split <;> rfl
theorem cmp_Compare_int.tell (a b : Int) : cmp_Compare_int.f a b = some (cmpI a b) := by
  unfold cmp_Compare_int.f cmp_isNaN_int.f cmpI
  simp only [bne_self_eq_false, Option.bind_some, Bool.false_eq_true, if_false]
  split
  · rfl
  · split <;> rfl
theorem cmp_Compare_string.tell (a b : ByteArray) : cmp_Compare_string.f a b = some (cmpS a.toList b.toList) := by
  unfold cmp_Compare_string.f cmp_isNaN_string.f cmpS
  simp only [bne_self_eq_false, Option.bind_some, Bool.false_eq_true, if_false]
  split
  · rfl
  · split <;> rfl
theorem value_Order.tell (k i : Int) (s : ByteArray) (b : Bool) (k' i' : Int) (s' : ByteArray) (b' : Bool) : value_Order.f k i s b k' i' s' b' = some (V.ord ⟨k, i, s, b⟩ ⟨k', i', s', b'⟩) := by
  unfold value_Order.f V.ord
  simp only [cmp_Compare_int.tell, cmp_Compare_string.tell, value_truth.tell, Option.bind_some]
  split
  · split
    · rfl
    · split
      · rfl
      · split <;> rfl
  · rfl

end Go.Proofs.Ytgjmpancofjjbaa.Q
