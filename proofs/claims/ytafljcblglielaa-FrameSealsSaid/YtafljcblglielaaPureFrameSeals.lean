/- Statement FrameSeals: any payload has the sum and the frame, or the error, that the document says; no condition. -/
import Derived.Test.YtafljcblglielaaQx11
import Derived.Test.YtafljcblglielaaHcrc
import Derived.Test.YtafljcblglielaaHframe
import Derived.Test.YtafljcblglielaaHframe04
import Derived.Test.YtafljcblglielaaHrefframe
namespace Go.Proofs.Ytafljcblglielaa.Pure
set_option linter.unusedVariables false
set_option linter.unusedSimpArgs false
open Go.RowKit Go.Proofs.Ytafljcblglielaa.Q Go.Proofs.Ytafljcblglielaa.Hnum Go.Proofs.Ytafljcblglielaa.Hcrc Go.Proofs.Ytafljcblglielaa.Hframe Go.Proofs.YtafljcblglielaaW.PrintWords Go.Proofs.YtafljcblglielaaW.PrintLast
theorem same (l : List Int) : winnowerref01_Same.f l l = some true := by unfold winnowerref01_Same.f; rw [decide_eq_true rfl]
theorem FrameSeals : winnowerlaw04_FrameSeals.Pure := by
  intro b n _ _ hb _
  have hb := Bytes.of_wf hb
  refine ⟨50000 + 2, ?_⟩
  unfold winnowerlaw04_FrameSeals.f
  rw [awake04 (by omega), Option.bind_some, if_pos rfl]
  by_cases hl : (b.length : Int) > 2000
  · rw [if_pos hl, winnowerlaw04_FrameSeals.j0, if_pos rfl]
  · rw [if_neg hl]
    by_cases h0 : n < 0
    · rw [if_pos h0, winnowerlaw04_FrameSeals.j0, if_pos rfl]
    · rw [if_neg h0, winnowerlaw04_FrameSeals.j0]
      by_cases h7 : n > 70000
      · rw [decide_eq_true h7, if_pos rfl]
      · obtain ⟨m, rfl⟩ := Int.eq_ofNat_of_zero_le (show 0 ≤ n by omega)
        rw [decide_eq_false h7, if_neg Bool.false_ne_true, seal_tell hb (by omega), Option.bind_some, refseal_tell hb (by omega) (by omega), Option.bind_some]
        simp only
        rw [same, Option.bind_some, if_pos (by omega), Int.toNat_natCast, if_pos (by omega)]
        by_cases hm : m ≤ 65536
        · have hn : Bytes (List.replicate m (0 : Int)) := fun x hx => by rw [(List.mem_replicate.1 hx).2]; omega
          rw [seal_tell hn (by rw [List.length_replicate]; exact hm), Option.bind_some]
          simp only
          rw [if_neg (by decide), if_pos trivial, if_pos trivial, sum_tell hb (by omega), Option.bind_some, refsum_tell hb (by omega) (by omega), Option.bind_some, if_pos rfl, decide_eq_false (by omega)]
          rfl
        · rw [seal_long (by rw [List.length_replicate]; omega), Option.bind_some]
          simp only
          rw [if_pos trivial, if_pos trivial, if_pos trivial, sum_tell hb (by omega), Option.bind_some, refsum_tell hb (by omega) (by omega), Option.bind_some, if_pos rfl, decide_eq_true (by omega)]
          rfl
end Go.Proofs.Ytafljcblglielaa.Pure
