/- What the document's Put and PutLen of layer 1 answer, in plain words. -/
import Derived.Test.YtnlfhjhdnompaaaHnum
import Derived.Test.YtnlfhjhdnompaaaQx0
import Derived.Test.YtnlfhjhdnompaaaQx17
import Derived.Test.YtnlfhjhdnompaaaQx18
namespace Go.Proofs.Ytnlfhjhdnompaaa.Q
open Go.RowKit Go.Proofs.YtnlfhjhdnompaaaW.PrintWords Go.Proofs.YtnlfhjhdnompaaaW.PrintLast Go.Proofs.YtnlfhjhdnompaaaW.PrintMore
attribute [local go_sem] max2_int min2_int max_two min_two max_three min_three max_four min_four   -- for this text's walks alone
set_option linter.unusedVariables false
set_option linter.unusedSimpArgs false

-- SAYS What the document's Put and PutLen of layer 1 answer, in plain words.
-- FUNCS winnower/winnowerref01.Put
-- NEEDS winnowerref01_Put.f winnowerref01_digits.f
-- IMPORT Derived.Test.YtnlfhjhdnompaaaHnum
open Go.Proofs.Ytnlfhjhdnompaaa.Hnum
theorem winnowerref01_Put.tells {a : Int} (h : i64 a) : winnowerref01_Put.f a = some (digs (fold a)) := by
  unfold i64 at h
  unfold winnowerref01_Put.f winnowerref01_digits.f fold
  by_cases h0 : a < 0
  · rw [if_pos h0, wrap_id (x := a + 1) (by omega) (by omega), wrap_id (x := -(a + 1)) (by omega) (by omega), if_pos ⟨by omega, by omega, by omega, by omega⟩, Option.bind_some, if_neg (by omega)]
    congr 2; omega
  · rw [if_neg h0, if_pos ⟨by omega, by omega, by omega, by omega⟩, Option.bind_some, if_pos (by omega)]
    congr 2; omega

end Go.Proofs.Ytnlfhjhdnompaaa.Q
