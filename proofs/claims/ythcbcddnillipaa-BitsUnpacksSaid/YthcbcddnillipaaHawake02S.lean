/- The example of chapter 2 holds. -/
import Derived.Test.YthcbcddnillipaaHbitnum
import Derived.Test.YthcbcddnillipaaHbitstellS
import Derived.Test.YthcbcddnillipaaSx0
import Derived.Test.YthcbcddnillipaaSx1
namespace Go.Proofs.Ythcbcddnillipaa.S
open Go.RowKit Go.Proofs.YthcbcddnillipaaW.PrintWords Go.Proofs.YthcbcddnillipaaW.PrintLast Go.Proofs.YthcbcddnillipaaW.PrintMore
attribute [local go_sem] max2_int min2_int max_two min_two max_three min_three max_four min_four   -- for this text's walks alone
set_option linter.unusedVariables false
set_option linter.unusedSimpArgs false

-- SAYS The example of chapter 2 holds.
-- FUNCS winnower/winnowerlaw02.awake
-- NEEDS winnowerlaw02_awake.f
-- IMPORT Derived.Test.YthcbcddnillipaaHbitnum
-- IMPORT Derived.Test.YthcbcddnillipaaHbitstellS
open Go.Proofs.Ythcbcddnillipaa.Hnum Go.Proofs.Ythcbcddnillipaa.Hbits Go.Proofs.Ythcbcddnillipaa.Hbitnum
theorem awake02 : winnowerlaw02_awake.f = some true := by
  have p : packT [1, 2, 3] 3 = ([209, 0], 0) := by decide
  have u : unpackT [209, 0] 3 3 = ([1, 2, 3], 0) := by decide
  have a : atT [209, 0] 2 3 = 3 := by decide
  unfold winnowerlaw02_awake.f
  rw [Pack_tell (by intro x hx; simp at hx; rcases hx with rfl | rfl | rfl <;> exact ⟨by decide, by decide⟩), p, Option.bind_some, Unpack_tell (by decide) (by decide), u, Option.bind_some,
    show winnowerref01_Same.f [209, 0] [209, 0] = some true from by decide, Option.bind_some, show winnowerref01_Ints.f [1, 2, 3] [1, 2, 3] = some true from by decide, Option.bind_some, if_pos rfl, if_pos rfl, if_pos rfl, if_pos rfl,
    At_tell (by decide) (by decide) ⟨by decide, by decide⟩ ⟨by decide, by decide⟩, a, Option.bind_some, if_pos rfl, bits_Width.tell (by decide), Option.bind_some]
  decide

end Go.Proofs.Ythcbcddnillipaa.S
