/- Statement ValueTells: any value may be or not, any two have the order, and any value the bytes or the error, that the document says; no condition. -/
import Derived.Test.YtakiclhafkhjcaaTx15
import Derived.Test.YtakiclhafkhjcaaHvalordT
import Derived.Test.YtakiclhafkhjcaaHvalputT
import Derived.Test.YtakiclhafkhjcaaHawake06T
namespace Go.Proofs.Ytakiclhafkhjcaa.Pure
set_option linter.unusedVariables false
set_option linter.unusedSimpArgs false
open Go.RowKit Go.Proofs.Ytakiclhafkhjcaa.T Go.Proofs.Ytakiclhafkhjcaa.Hnum Go.Proofs.Ytakiclhafkhjcaa.Hval Go.Proofs.YtakiclhafkhjcaaW.PrintWords Go.Proofs.YtakiclhafkhjcaaW.PrintLast
theorem tells (l : List Int) (k i : Int) (s : ByteArray) (b : Bool) (k' i' : Int) (s' : ByteArray) (b' : Bool) (e : Int) (hs : s.size ≤ 9223372036854775807) (q : Nat) : winnowerlaw06_ValueTells.j1 (q + 1) l e e l k i s b k' i' s' b' = some true := by
  rw [winnowerlaw06_ValueTells.j1, show winnowerref01_Same.f l l = some true from by unfold winnowerref01_Same.f; rw [decide_eq_true rfl], Option.bind_some, if_pos rfl, if_pos rfl, value_May.tell, Option.bind_some, winnowerref06_May.tell, Option.bind_some, if_pos (by simp), value_Order.tell, Option.bind_some]
  unfold winnowerref06_Order.f
  rw [if_pos hs, Option.bind_some, beq_self_eq_true]
theorem ValueTells : winnowerlaw06_ValueTells.Pure := by
  intro k i s b k' i' s' b' l hk hi hs _ _ _ _ _ hw
  have hi := i64_of_wf hi
  unfold maxLen at hs
  refine ⟨2, ?_⟩
  unfold winnowerlaw06_ValueTells.f
  rw [awake06, Option.bind_some, if_pos rfl]
  have hend : winnowerlaw06_ValueTells.j0 2 l true true k i s b k' i' s' b' = some true := by rw [winnowerlaw06_ValueTells.j0, if_pos rfl]
  by_cases h1 : (s.size : Int) > 300
  · rw [if_pos h1]; exact hend
  · rw [if_neg h1]
    by_cases h2 : (s'.size : Int) > 300
    · rw [if_pos h2]; exact hend
    · rw [if_neg h2]
      by_cases h3 : (l.length : Int) > 300
      · rw [decide_eq_true h3]; exact hend
      · rw [decide_eq_false h3, winnowerlaw06_ValueTells.j0, if_neg (by decide), value_Put.tell (by omega) hi, Option.bind_some]
        unfold winnowerref06_Put.f
        rw [if_pos hi, Option.bind_some, if_pos (by simp only [List.length_nil]; omega), Option.bind_some, List.nil_append]
        by_cases hm : V.may ⟨k, i, s, b⟩ = true
        · have hb := bytes_short hm hi
          have e1 : ∀ l, V.put ⟨k, i, s, b⟩ l = (l ++ V.bytes ⟨k, i, s, b⟩, 0) := fun l => by unfold V.put; rw [if_pos hm]
          rw [e1, e1, List.nil_append]
          rw [if_pos (show l.length + ((V.bytes ⟨k, i, s, b⟩, (0 : Int)) : List Int × Int).1.length < 140737488355328 from by show l.length + (V.bytes ⟨k, i, s, b⟩).length < _; omega), if_pos (show ((V.bytes ⟨k, i, s, b⟩, (0 : Int)) : List Int × Int).2 = 0 from rfl)]
          exact tells _ k i s b k' i' s' b' 0 (by omega) 0
        · have e1 : ∀ l, V.put ⟨k, i, s, b⟩ l = ([], 1) := fun l => by unfold V.put; rw [if_neg hm]
          rw [e1, e1]
          rw [if_pos (show l.length + ((([] : List Int), (1 : Int)) : List Int × Int).1.length < 140737488355328 from by show l.length + 0 < _; omega), if_neg (show ¬ ((([] : List Int), (1 : Int)) : List Int × Int).2 = 0 from by decide)]
          exact tells _ k i s b k' i' s' b' 1 (by omega) 0
end Go.Proofs.Ytakiclhafkhjcaa.Pure
