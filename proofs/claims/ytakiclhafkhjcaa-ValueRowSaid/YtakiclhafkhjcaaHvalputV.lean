/- What Put of layer 6 answers, in plain words. -/
import Derived.Test.YtakiclhafkhjcaaHnum
import Derived.Test.YtakiclhafkhjcaaHval
import Derived.Test.YtakiclhafkhjcaaHnumputV
import Derived.Test.YtakiclhafkhjcaaHvalordV
import Derived.Test.YtakiclhafkhjcaaVx0
import Derived.Test.YtakiclhafkhjcaaVx1
import Derived.Test.YtakiclhafkhjcaaVx2
import Derived.Test.YtakiclhafkhjcaaVx3
import Derived.Test.YtakiclhafkhjcaaVx4
import Derived.Test.YtakiclhafkhjcaaVx5
namespace Go.Proofs.Ytakiclhafkhjcaa.V
open Go.RowKit Go.Proofs.YtakiclhafkhjcaaW.PrintWords Go.Proofs.YtakiclhafkhjcaaW.PrintLast Go.Proofs.YtakiclhafkhjcaaW.PrintMore
attribute [local go_sem] max2_int min2_int max_two min_two max_three min_three max_four min_four   -- for this text's walks alone
set_option linter.unusedVariables false
set_option linter.unusedSimpArgs false

-- SAYS What Put of layer 6 answers, in plain words.
-- FUNCS winnower/value.Put winnower/num.PutLen
-- NEEDS value_Put.f value_May.f value_truth.f num_Put.f num_PutLen.f num_put.f num_fold.f
-- IMPORT Derived.Test.YtakiclhafkhjcaaHnum
-- IMPORT Derived.Test.YtakiclhafkhjcaaHval
-- IMPORT Derived.Test.YtakiclhafkhjcaaHnumputV
-- IMPORT Derived.Test.YtakiclhafkhjcaaHvalordV
open Go.Proofs.Ytakiclhafkhjcaa.Hnum Go.Proofs.Ytakiclhafkhjcaa.Hval
theorem value_Put.tell {l : List Int} {k i : Int} {s : ByteArray} {b : Bool} (hl : l.length < 1000000000) (hi : i64 i) : value_Put.f l k i s b = some (V.put ⟨k, i, s, b⟩ l) := by
  unfold value_Put.f V.put
  rw [value_May.tell, Option.bind_some]
  by_cases hm : V.may ⟨k, i, s, b⟩ = true
  · rw [if_pos hm, if_pos hm]
    unfold V.bytes
    simp only
    by_cases c1 : k = 1
    · rw [if_pos c1, if_pos c1, num_Put.tell hi (by omega), Option.bind_some]
    · rw [if_neg c1, if_neg c1]
      by_cases c2 : k = 2
      · have hs : s.size ≤ 64 := by
          unfold V.may at hm
          simp only at hm
          rw [if_neg c1, if_pos c2] at hm
          by_cases h : (s.size : Int) > 64
          · rw [if_pos h] at hm; cases hm
          · omega
        have hd := digs_le_ten (u := s.size) (by omega)
        rw [if_pos c2, if_pos c2, num_PutLen.tell (by omega) (by omega), Option.bind_some, if_pos (by rw [List.length_append]; omega), List.append_assoc]
      · rw [if_neg c2, if_neg c2]
        by_cases c3 : k = 3
        · rw [if_pos c3, if_pos c3, value_truth.tell, Option.bind_some, if_pos (by omega)]
          have : tr b % 256 = tr b := by unfold tr; split <;> rfl
          rw [this]
        · rw [if_neg c3, if_neg c3, List.append_nil]
  · rw [if_neg hm, if_neg hm]

end Go.Proofs.Ytakiclhafkhjcaa.V
