/- Statement ValueBack: what was put is got, whatever stands behind, and what is got may be and would be put as the same bytes; no condition. -/
import Derived.Test.YtakiclhafkhjcaaUx19
import Derived.Test.YtakiclhafkhjcaaHvalgetU
import Derived.Test.YtakiclhafkhjcaaHvalputU
import Derived.Test.YtakiclhafkhjcaaHawake06U
namespace Go.Proofs.Ytakiclhafkhjcaa.Pure
set_option linter.unusedVariables false
set_option linter.unusedSimpArgs false
open Go.RowKit Go.Proofs.Ytakiclhafkhjcaa.U Go.Proofs.Ytakiclhafkhjcaa.Hnum Go.Proofs.Ytakiclhafkhjcaa.Hval Go.Proofs.YtakiclhafkhjcaaW.PrintWords Go.Proofs.YtakiclhafkhjcaaW.PrintLast
theorem backs (l : List Int) (hb : Bytes l) (hl : l.length ≤ 300) (kind : Int) (k : Nat) : winnowerlaw06_ValueBack.j1 (k + 2) l kind false = some true := by
  rw [winnowerlaw06_ValueBack.j1, if_neg (by decide), value_Get.tell hb (by omega), Option.bind_some]
  rcases getV_cases hb kind with ⟨e, hg, he, _⟩ | ⟨v, n, hg, hm, hk, ht, hn, hi⟩
  · rw [hg]
    simp only [bad]
    rw [if_neg he]
    simp [toList_none]
  · rw [hg]
    simp only [good]
    rw [if_pos trivial, value_Put.tell (by decide) hi, Option.bind_some]
    have hp : V.put ⟨v.k, v.i, v.s, v.b⟩ [] = (v.bytes, 0) := by
      unfold V.put
      rw [if_pos hm, List.nil_append]
    rw [hp]
    simp only
    rw [if_pos trivial, winnowerlaw06_ValueBack.j2, if_neg (by simpa using hn), if_pos (by omega), if_pos (by omega), Int.toNat_natCast, ht]
    rw [show winnowerref01_Same.f (l.take n) (l.take n) = some true from by unfold winnowerref01_Same.f; rw [decide_eq_true rfl], Option.bind_some, if_pos rfl, value_May.tell, Option.bind_some, if_pos (show V.may ⟨v.k, v.i, v.s, v.b⟩ = true from hm), hk, beq_self_eq_true]
theorem ValueBack : winnowerlaw06_ValueBack.Pure := by
  intro k i s b l kind hk hi _ _ _ hw _
  have hb := Bytes.of_wf hw
  have hi := i64_of_wf hi
  refine ⟨3, ?_⟩
  unfold winnowerlaw06_ValueBack.f
  rw [awake06, Option.bind_some, if_pos rfl]
  have hend : winnowerlaw06_ValueBack.j0 3 l kind true true k i s b = some true := by rw [winnowerlaw06_ValueBack.j0, if_pos rfl]
  by_cases h3 : (l.length : Int) > 300
  · rw [if_pos h3]; exact hend
  · rw [if_neg h3]
    by_cases h4 : (s.size : Int) > 300
    · rw [decide_eq_true h4]; exact hend
    · rw [decide_eq_false h4, winnowerlaw06_ValueBack.j0, if_neg (by decide), value_Put.tell (by decide) hi, Option.bind_some, value_May.tell, Option.bind_some]
      unfold V.put
      by_cases hm : V.may ⟨k, i, s, b⟩ = true
      · have hbl := bytes_short hm hi
        have hkk := may_kind hm
        simp only at hkk
        have hby := V.bytes_bytes ⟨k, i, s, b⟩
        rw [if_pos hm, if_pos hm]
        simp only [List.nil_append, List.length_nil]
        rw [if_pos (by omega)]
        simp only [Option.bind_some]
        rw [if_pos (by omega), value_Get.tell (hby.append hb) (by rw [List.length_append]; omega), Option.bind_some, getV_bytes (v := ⟨k, i, s, b⟩) hm hi l]
        simp only [good]
        rw [if_pos (by simp only [List.length_append, List.length_cons, List.length_nil]; omega), show k % 256 = k from by omega, List.singleton_append,
          value_Any.tell (Bytes.cons (by omega) (by omega) (hby.append hb)) (by simp only [List.length_append, List.length_cons]; omega), Option.bind_some, anyV_bytes (v := ⟨k, i, s, b⟩) hm hi l]
        simp only [good, if_true, beq_self_eq_true, Bool.not_true, Bool.or_self, Bool.false_eq_true, if_false]
        rw [wrap_id (by omega) (by omega), show ((((V.bytes ⟨k, i, s, b⟩).length : Int) + 1) != (((V.bytes ⟨k, i, s, b⟩).length : Int) + 1)) = false from by simp]
        exact backs l hb (by omega) kind 0
      · rw [if_neg hm, if_neg hm]
        rfl
end Go.Proofs.Ytakiclhafkhjcaa.Pure
