/- The examples of chapter 6 hold. -/
import Derived.Test.YtakiclhafkhjcaaHnum
import Derived.Test.YtakiclhafkhjcaaHval
import Derived.Test.YtakiclhafkhjcaaHvalordV
import Derived.Test.YtakiclhafkhjcaaHvalputV
import Derived.Test.YtakiclhafkhjcaaVx0
import Derived.Test.YtakiclhafkhjcaaVx1
import Derived.Test.YtakiclhafkhjcaaVx5
import Derived.Test.YtakiclhafkhjcaaVx6
import Derived.Test.YtakiclhafkhjcaaVx7
namespace Go.Proofs.Ytakiclhafkhjcaa.V
open Go.RowKit Go.Proofs.YtakiclhafkhjcaaW.PrintWords Go.Proofs.YtakiclhafkhjcaaW.PrintLast Go.Proofs.YtakiclhafkhjcaaW.PrintMore
attribute [local go_sem] max2_int min2_int max_two min_two max_three min_three max_four min_four   -- for this text's walks alone
set_option linter.unusedVariables false
set_option linter.unusedSimpArgs false

-- SAYS The examples of chapter 6 hold.
-- FUNCS winnower/winnowerlaw06.awake
-- NEEDS winnowerlaw06_awake.f value_Put.f value_Order.f value_May.f winnowerref01_Same.f
-- IMPORT Derived.Test.YtakiclhafkhjcaaHnum
-- IMPORT Derived.Test.YtakiclhafkhjcaaHval
-- IMPORT Derived.Test.YtakiclhafkhjcaaHvalordV
-- IMPORT Derived.Test.YtakiclhafkhjcaaHvalputV
open Go.Proofs.Ytakiclhafkhjcaa.Hnum Go.Proofs.Ytakiclhafkhjcaa.Hval
theorem awake06 : winnowerlaw06_awake.f = some true := by
  have h1 : V.put ⟨2, 0, ⟨#[97, 98]⟩, false⟩ [] = ([2, 97, 98], 0) := by
    unfold V.put V.bytes
    rw [if_pos (by decide)]
    simp only
    rw [if_neg (by decide), if_pos trivial, show (ByteArray.mk #[97, 98]).size = 2 from rfl, digs_last (by decide)]
    rfl
  unfold winnowerlaw06_awake.f
  rw [value_Put.tell (by decide) ⟨by decide, by decide⟩, Option.bind_some, h1]
  simp only
  rw [show winnowerref01_Same.f [2, 97, 98] [2, 97, 98] = some true from by decide, Option.bind_some, if_pos rfl, if_pos trivial, value_Order.tell, Option.bind_some,
    show V.ord ⟨1, 5, ⟨#[]⟩, false⟩ ⟨2, 0, ⟨#[97]⟩, false⟩ = -1 from by decide, if_pos rfl, value_May.tell, Option.bind_some]
  exact congrArg some V.may_null

end Go.Proofs.Ytakiclhafkhjcaa.V
