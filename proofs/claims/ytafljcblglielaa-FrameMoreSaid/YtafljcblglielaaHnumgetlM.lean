/- What GetLen of layer 1 answer, in plain words. -/
import Derived.Test.YtafljcblglielaaHnum
import Derived.Test.YtafljcblglielaaMx0
import Derived.Test.YtafljcblglielaaMx12
import Derived.Test.YtafljcblglielaaMx13
namespace Go.Proofs.Ytafljcblglielaa.M
open Go.RowKit Go.Proofs.YtafljcblglielaaW.PrintWords Go.Proofs.YtafljcblglielaaW.PrintLast Go.Proofs.YtafljcblglielaaW.PrintMore
attribute [local go_sem] max2_int min2_int max_two min_two max_three min_three max_four min_four   -- for this text's walks alone
set_option linter.unusedVariables false
set_option linter.unusedSimpArgs false

-- SAYS What GetLen of layer 1 answer, in plain words.
-- FUNCS winnower/num.GetLen
-- NEEDS num_GetLen.f num_get.f
-- IMPORT Derived.Test.YtafljcblglielaaHnum
open Go.Proofs.Ytafljcblglielaa.Hnum
theorem num_GetLen.tell {l : List Int} (h : Bytes l) : num_GetLen.f l = some (getl l) := by
  unfold num_GetLen.f num_get.f getl
  rw [if_pos h, Option.bind_some]
  cases hg : getd 0 l with
  | error e =>
    have := getd_error hg
    rw [if_neg (show ¬ ((trip (Except.error e)).2.2 = 0) from by show ¬ (e = 0); omega)]
    show some (wrap64 0, (0 : Int), e) = some (0, 0, e)
    rw [wrap_id (by omega) (by omega)]
  | ok p =>
    obtain ⟨u, n⟩ := p
    have := (getd_ok (by omega) h hg).2.2.2.2.1
    rw [if_pos (show (trip (Except.ok (u, n))).2.2 = 0 from rfl)]
    by_cases hu : u ≤ 9223372036854775807
    · rw [if_neg (show ¬ ((trip (Except.ok (u, n))).1 > 9223372036854775807) from by show ¬ ((u : Int) > 9223372036854775807); omega)]
      show some (wrap64 (u : Int), (n : Int), (0 : Int)) = some (if u ≤ 9223372036854775807 then ((u : Int), (n : Int), 0) else (0, 0, 7))
      rw [if_pos hu, wrap_id (by omega) (by omega)]
    · rw [if_pos (show (trip (Except.ok (u, n))).1 > 9223372036854775807 from by show (u : Int) > 9223372036854775807; omega)]
      show some ((0 : Int), (0 : Int), (7 : Int)) = some (if u ≤ 9223372036854775807 then ((u : Int), (n : Int), 0) else (0, 0, 7))
      rw [if_neg hu]

end Go.Proofs.Ytafljcblglielaa.M
