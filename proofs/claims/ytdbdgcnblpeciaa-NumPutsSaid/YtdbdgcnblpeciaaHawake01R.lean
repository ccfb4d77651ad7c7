/- The examples of chapter 1 hold. -/
import Derived.Test.YtdbdgcnblpeciaaHnum
import Derived.Test.YtdbdgcnblpeciaaHnumputR
import Derived.Test.YtdbdgcnblpeciaaHnumgetR
import Derived.Test.YtdbdgcnblpeciaaRx0
import Derived.Test.YtdbdgcnblpeciaaRx3
import Derived.Test.YtdbdgcnblpeciaaRx5
import Derived.Test.YtdbdgcnblpeciaaRx8
namespace Go.Proofs.Ytdbdgcnblpeciaa.R
open Go.RowKit Go.Proofs.YtdbdgcnblpeciaaW.PrintWords Go.Proofs.YtdbdgcnblpeciaaW.PrintLast Go.Proofs.YtdbdgcnblpeciaaW.PrintMore
attribute [local go_sem] max2_int min2_int max_two min_two max_three min_three max_four min_four   -- for this text's walks alone
set_option linter.unusedVariables false
set_option linter.unusedSimpArgs false

-- SAYS The examples of chapter 1 hold.
-- FUNCS winnower/winnowerlaw01.awake
-- NEEDS winnowerlaw01_awake.f
-- IMPORT Derived.Test.YtdbdgcnblpeciaaHnum
-- IMPORT Derived.Test.YtdbdgcnblpeciaaHnumputR
-- IMPORT Derived.Test.YtdbdgcnblpeciaaHnumgetR
open Go.Proofs.Ytdbdgcnblpeciaa.Hnum
theorem awake01 : winnowerlaw01_awake.f = some true := by
  have d1 : digs (fold (-1)) = [1] := by rw [show fold (-1) = 1 from by decide, digs_last (by decide)]; rfl
  have d2 : digs (fold 1) = [2] := by rw [show fold 1 = 2 from by decide, digs_last (by decide)]; rfl
  have d3 : digs (fold 64) = [128, 1] := by rw [show fold 64 = 128 from by decide, digs_more (by decide), digs_last (by decide)]; rfl
  have d4 : digs 300 = [172, 2] := by rw [digs_more (by decide), digs_last (by decide)]; rfl
  unfold winnowerlaw01_awake.f
  rw [num_Put.tell ⟨by decide, by decide⟩ (by decide), d1, Option.bind_some, num_Put.tell ⟨by decide, by decide⟩ (by decide), d2, Option.bind_some, num_Put.tell ⟨by decide, by decide⟩ (by decide), d3, Option.bind_some,
    show (300 : Int) = ((300 : Nat) : Int) from rfl, num_PutLen.tell (by decide) (by decide), d4, Option.bind_some]
  rw [show winnowerref01_Same.f ([] ++ [1] ++ [2] ++ [128, 1] ++ [172, 2]) [1, 2, 128, 1, 172, 2] = some true from by decide, Option.bind_some, num_Get.tell (by decide), show getn [128, 0] = (0, 0, 7) from by rfl, Option.bind_some]
  simp only [if_true]
  unfold num_Size.f
  rw [if_pos ⟨by decide, by decide⟩, Option.bind_some, d3]
  rfl

end Go.Proofs.Ytdbdgcnblpeciaa.R
