/- What Get and Any of layer 6 answer, in plain words. -/
import Derived.Test.YtakiclhafkhjcaaHnum
import Derived.Test.YtakiclhafkhjcaaHval
import Derived.Test.YtakiclhafkhjcaaHnumgetV
import Derived.Test.YtakiclhafkhjcaaHnumgetlV
import Derived.Test.YtakiclhafkhjcaaVx0
import Derived.Test.YtakiclhafkhjcaaVx9
import Derived.Test.YtakiclhafkhjcaaVx10
namespace Go.Proofs.Ytakiclhafkhjcaa.V
open Go.RowKit Go.Proofs.YtakiclhafkhjcaaW.PrintWords Go.Proofs.YtakiclhafkhjcaaW.PrintLast Go.Proofs.YtakiclhafkhjcaaW.PrintMore
attribute [local go_sem] max2_int min2_int max_two min_two max_three min_three max_four min_four   -- for this text's walks alone
set_option linter.unusedVariables false
set_option linter.unusedSimpArgs false

-- SAYS What Get and Any of layer 6 answer, in plain words.
-- FUNCS winnower/value.Get winnower/value.Any
-- NEEDS value_Get.f value_Any.f value_text.f num_Get.f num_GetLen.f
-- IMPORT Derived.Test.YtakiclhafkhjcaaHnum
-- IMPORT Derived.Test.YtakiclhafkhjcaaHval
-- IMPORT Derived.Test.YtakiclhafkhjcaaHnumgetV
-- IMPORT Derived.Test.YtakiclhafkhjcaaHnumgetlV
open Go.Proofs.Ytakiclhafkhjcaa.Hnum Go.Proofs.Ytakiclhafkhjcaa.Hval
theorem value_Get.tell {l : List Int} (hb : Bytes l) (hl : l.length ≤ 1000000000) (kind : Int) : value_Get.f l kind = some (getV l kind) := by
  unfold value_Get.f getV
  by_cases c0 : kind = 0
  · rw [if_pos c0, if_pos c0] <;> rfl
  · rw [if_neg c0, if_neg c0]
    by_cases c1 : kind = 1
    · rw [if_pos c1, if_pos c1, num_Get.tell hb, Option.bind_some]
      split <;> rfl
    · rw [if_neg c1, if_neg c1]
      by_cases c2 : kind = 2
      · rw [if_pos c2, if_pos c2]
        unfold value_text.f
        rw [num_GetLen.tell hb, Option.bind_some]
        rcases getl_cases hb with ⟨e, hg, he⟩ | ⟨u, n, hg, h1, h2, h3, h4⟩
        · rw [hg]
          simp only
          rw [if_neg (by omega), if_neg (by omega)] <;> rfl
        · rw [hg]
          simp only
          rw [if_pos trivial, if_pos trivial]
          by_cases c3 : (u : Int) > 64
          · rw [if_pos c3, if_pos c3] <;> rfl
          · rw [if_neg c3, if_neg c3, wrap_id (x := (l.length : Int) - (n : Int)) (by omega) (by omega), wrap_id (x := (n : Int) + (u : Int)) (by omega) (by omega)]
            by_cases c4 : (n : Int) + (u : Int) > (l.length : Int)
            · rw [if_pos (by omega), if_pos c4] <;> rfl
            · rw [if_neg (by omega), if_neg c4, if_pos (by omega), if_pos (by omega), if_pos (by omega)] <;> rfl
      · rw [if_neg c2, if_neg c2]
        by_cases c3 : kind = 3
        · rw [if_pos c3, if_pos c3]
          by_cases c4 : l.length = 0
          · rw [if_pos (by omega), if_pos c4] <;> rfl
          · rw [if_neg (by omega), if_neg c4, if_pos (by omega)]
            split <;> rfl
        · rw [if_neg c3, if_neg c3] <;> rfl
theorem rd_zero {l : List Int} (hb : Bytes l) : 0 ≤ rd l 0 ∧ rd l 0 < 256 := by
  cases l with
  | nil => exact ⟨Int.le_refl _, by decide⟩
  | cons d t => exact hb d (List.mem_cons_self ..)
theorem value_Any.tell {l : List Int} (hb : Bytes l) (hl : l.length ≤ 1000000000) : value_Any.f l = some (anyV l) := by
  have hr := rd_zero hb
  unfold value_Any.f anyV
  by_cases c0 : l.length = 0
  · rw [if_pos (by omega), if_pos c0] <;> rfl
  · rw [if_neg (by omega), if_neg c0, if_pos (by omega)]
    by_cases c1 : rd l 0 > 3
    · rw [if_pos c1, if_pos c1] <;> rfl
    · rw [if_neg c1, if_neg c1, if_pos (by omega), wrap_id (x := rd l 0) (by omega) (by omega), value_Get.tell (hb.drop 1) (by rw [List.length_drop]; omega), Option.bind_some]
      rcases getV_cases (hb.drop 1) (rd l 0) with ⟨e, hg, he, _⟩ | ⟨v, n, hg, _, _, _, hn, _⟩
      · rw [hg, if_neg (show ¬ (bad e).2.2.2.2.2 = 0 from he), if_neg (show ¬ (bad e).2.2.2.2.2 = 0 from he)] <;> rfl
      · rw [List.length_drop] at hn
        rw [hg, if_pos (show (good v (n : Int)).2.2.2.2.2 = 0 from rfl), if_pos (show (good v (n : Int)).2.2.2.2.2 = 0 from rfl)]
        show some (v.k, v.i, v.s, v.b, wrap64 ((n : Int) + 1), (0 : Int)) = some (v.k, v.i, v.s, v.b, (n : Int) + 1, (0 : Int))
        rw [wrap_id (by omega) (by omega)]

end Go.Proofs.Ytakiclhafkhjcaa.V
