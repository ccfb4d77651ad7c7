/- Statement NumBack: what was put is got, whatever stands behind; no condition. -/
import Derived.Test.YtdbdgcnblpeciaaQx11
import Derived.Test.YtdbdgcnblpeciaaHnumtell
import Derived.Test.YtdbdgcnblpeciaaHawake01
namespace Go.Proofs.Ytdbdgcnblpeciaa.Pure
open Go.RowKit Go.Proofs.Ytdbdgcnblpeciaa.Q Go.Proofs.Ytdbdgcnblpeciaa.Hnum Go.Proofs.YtdbdgcnblpeciaaW.PrintWords Go.Proofs.YtdbdgcnblpeciaaW.PrintLast
theorem NumBack : winnowerlaw01_NumBack.Pure := by
  intro a l ha _ hl hw
  have ha := i64_of_wf ha
  have hb := Bytes.of_wf hw
  refine ⟨2, ?_⟩
  unfold winnowerlaw01_NumBack.f
  rw [awake01]
  simp only [Option.bind_some, if_true, winnowerlaw01_NumBack.j0]
  by_cases h6 : (l.length : Int) > 600
  · rw [if_pos (decide_eq_true h6)]
  · rw [if_neg (by simpa using h6)]
    have hd := digs_le_ten (fold_lt ha)
    rw [num_Put.tell ha (by decide)]
    simp only [Option.bind_some, List.nil_append]
    rw [if_pos (by simp only [List.length_nil]; omega), if_pos (by omega), num_Get.tell ((digs_bytes _).append hb), getn_digs ha]
    simp only [Option.bind_some, if_true]
    rw [show num_Size.f a = some ((digs (fold a)).length : Int) from by unfold num_Size.f; rw [if_pos ha]]
    simp only [Option.bind_some, bne_self_eq_false, winnowerlaw01_NumBack.j1]
    rw [if_neg (by decide)]
    by_cases h0 : a < 0
    · rw [if_pos h0, num_PutLen.neg h0]; rfl
    · rw [if_neg h0]
      unfold i64 at ha
      obtain ⟨n, rfl⟩ := Int.eq_ofNat_of_zero_le (show 0 ≤ a by omega)
      have hd2 := digs_le_ten (u := n) (by omega)
      rw [num_PutLen.tell (by omega) (by decide)]
      simp only [Option.bind_some, List.nil_append]
      rw [if_pos (by simp only [List.length_nil]; omega), if_pos (by omega), num_GetLen.tell ((digs_bytes _).append hb), getl_digs (by omega)]
      simp only [Option.bind_some, if_true, beq_self_eq_true]
end Go.Proofs.Ytdbdgcnblpeciaa.Pure
