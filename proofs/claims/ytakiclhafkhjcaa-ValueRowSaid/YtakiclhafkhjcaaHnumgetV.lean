/- What Get of layer 1 answer, in plain words. -/
import Derived.Test.YtakiclhafkhjcaaHnum
import Derived.Test.YtakiclhafkhjcaaVx0
import Derived.Test.YtakiclhafkhjcaaVx8
import Derived.Test.YtakiclhafkhjcaaVx9
namespace Go.Proofs.Ytakiclhafkhjcaa.V
open Go.RowKit Go.Proofs.YtakiclhafkhjcaaW.PrintWords Go.Proofs.YtakiclhafkhjcaaW.PrintLast Go.Proofs.YtakiclhafkhjcaaW.PrintMore
attribute [local go_sem] max2_int min2_int max_two min_two max_three min_three max_four min_four   -- for this text's walks alone
set_option linter.unusedVariables false
set_option linter.unusedSimpArgs false

-- SAYS What Get of layer 1 answer, in plain words.
-- FUNCS winnower/num.Get
-- NEEDS num_Get.f num_get.f num_back.f
-- IMPORT Derived.Test.YtakiclhafkhjcaaHnum
open Go.Proofs.Ytakiclhafkhjcaa.Hnum
theorem num_back.tell {u : Nat} (h : u < 18446744073709551616) : num_back.f (u : Int) = some (back u) := by unfold num_back.f; rw [back_bits h]
theorem num_Get.tell {l : List Int} (h : Bytes l) : num_Get.f l = some (getn l) := by
  unfold num_Get.f num_get.f getn
  rw [if_pos h, Option.bind_some]
  cases hg : getd 0 l with
  | error e => simp only [trip]; rw [show (0 : Int) = ((0 : Nat) : Int) from rfl, num_back.tell (by omega)]; rfl
  | ok p =>
    obtain ⟨u, n⟩ := p
    have := (getd_ok (by omega) h hg).2.2.2.2.1
    simp only [trip]
    rw [num_back.tell (by omega)]; rfl

end Go.Proofs.Ytakiclhafkhjcaa.V
