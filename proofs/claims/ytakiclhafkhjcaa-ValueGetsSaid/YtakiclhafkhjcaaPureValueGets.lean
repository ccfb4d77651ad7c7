/- Statement ValueGets: any bytes begin with the value of any kind, or have the error, that the document says; no condition. -/
import Derived.Test.YtakiclhafkhjcaaGx17
import Derived.Test.YtakiclhafkhjcaaHvalgetG
import Derived.Test.YtakiclhafkhjcaaHvalrefgetG
import Derived.Test.YtakiclhafkhjcaaHawake06G
namespace Go.Proofs.Ytakiclhafkhjcaa.Pure
set_option linter.unusedVariables false
set_option linter.unusedSimpArgs false
open Go.RowKit Go.Proofs.Ytakiclhafkhjcaa.G Go.Proofs.Ytakiclhafkhjcaa.Hnum Go.Proofs.Ytakiclhafkhjcaa.Hval Go.Proofs.YtakiclhafkhjcaaW.PrintWords Go.Proofs.YtakiclhafkhjcaaW.PrintLast
theorem ValueGets : winnowerlaw06_ValueGets.Pure := by
  intro l kind _ _ hw _
  have hb := Bytes.of_wf hw
  refine ⟨1, ?_⟩
  unfold winnowerlaw06_ValueGets.f
  rw [awake06, Option.bind_some, if_pos rfl, winnowerlaw06_ValueGets.j0]
  by_cases h3 : (l.length : Int) > 300
  · rw [if_pos (decide_eq_true h3)]
  · rw [if_neg (by simpa using h3), value_Get.tell hb (by omega), Option.bind_some, winnowerref06_Get.tell hb (by omega), Option.bind_some, value_Any.tell hb (by omega), Option.bind_some, winnowerref06_Any.tell hb (by omega), Option.bind_some]
    simp
end Go.Proofs.Ytakiclhafkhjcaa.Pure
