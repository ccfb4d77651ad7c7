/- What the document's PutLen of layer 1 answers, in plain words. -/
import Derived.Test.YtafljcblglielaaHnum
import Derived.Test.YtafljcblglielaaMx0
import Derived.Test.YtafljcblglielaaMx10
import Derived.Test.YtafljcblglielaaMx11
namespace Go.Proofs.Ytafljcblglielaa.M
open Go.RowKit Go.Proofs.YtafljcblglielaaW.PrintWords Go.Proofs.YtafljcblglielaaW.PrintLast Go.Proofs.YtafljcblglielaaW.PrintMore
attribute [local go_sem] max2_int min2_int max_two min_two max_three min_three max_four min_four   -- for this text's walks alone
set_option linter.unusedVariables false
set_option linter.unusedSimpArgs false

-- SAYS What the document's PutLen of layer 1 answers, in plain words.
-- FUNCS winnower/winnowerref01.PutLen
-- NEEDS winnowerref01_PutLen.f winnowerref01_digits.f
-- IMPORT Derived.Test.YtafljcblglielaaHnum
open Go.Proofs.Ytafljcblglielaa.Hnum
theorem winnowerref01_PutLen.tells {a : Nat} (h : a ≤ 9223372036854775807) : winnowerref01_PutLen.f (a : Int) = some (digs a) := by
  unfold winnowerref01_PutLen.f winnowerref01_digits.f
  have e1 : Int.tdiv (a : Int) 2 = ((a / 2 : Nat) : Int) := rfl
  have e2 : Int.tmod (a : Int) 2 = ((a % 2 : Nat) : Int) := rfl
  rw [if_neg (by omega), e1, e2, wrap_id (by omega) (by omega), if_pos ⟨by omega, by omega, by omega, by omega⟩, Option.bind_some]
  congr 2; omega

end Go.Proofs.Ytafljcblglielaa.M
