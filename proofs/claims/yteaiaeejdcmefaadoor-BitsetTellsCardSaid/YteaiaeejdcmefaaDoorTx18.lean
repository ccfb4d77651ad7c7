/- The machine side of laws, written by wip/tools/myprint.py (the printer's way, with functions proved by hand put in); Lean checks it. -/
import Derived.Test.YteaiaeejdcmefaaDoorTx0
namespace Go.Proofs.YteaiaeejdcmefaaDoor.T
open Go.RowKit Go.Proofs.YteaiaeejdcmefaaDoorW.PrintWords Go.Proofs.YteaiaeejdcmefaaDoorW.PrintLast Go.Proofs.YteaiaeejdcmefaaDoorW.PrintMore
attribute [local go_sem] max2_int min2_int max_two min_two max_three min_three max_four min_four   -- for this text's walks alone
set_option linter.unusedVariables false
set_option linter.unusedSimpArgs false

-- BY HAND: 
/-! ### winnowerref09_may: function 40 -/
-- HAND winnower/winnowerref09.may making
def winnowerref09_may.f (a0 : Int) : Option Bool := some (decide (0 ≤ a0 ∧ a0 < 65536))
set_option maxHeartbeats 1000000 in
theorem winnowerref09_may.calls (a0 : Int) (r : Bool) (w : World) (h : winnowerref09_may.f a0 = some r) : Calls Tryd.prog 40 #[.int .i64 a0] w fun e w' => e = .returned (.bool r) ∧ Below w.heap.size w w' := by
  obtain rfl := Option.some.inj h
  clear h
  by_cases h1 : 0 ≤ a0
  · have hb1 : decide (0 ≤ a0) = true := decide_eq_true h1
    have e : decide (0 ≤ a0 ∧ a0 < 65536) = decide (a0 < 65536) := decide_eq_decide.2 ⟨fun h => h.2, fun h => ⟨h1, h⟩⟩
    rw [e]
    clear e
    go_enter Tryd.func40, Tryd.ntmps40
    go_wp2
    go_ret
    exact ⟨rfl, by repeat (first | exact Below.refl _ _ | apply pw_below_drewN | apply below_drew1)⟩
  · have hb1 : decide (0 ≤ a0) = false := decide_eq_false h1
    have e : decide (0 ≤ a0 ∧ a0 < 65536) = false := decide_eq_false fun h => h1 h.1
    rw [e]
    clear e
    go_enter Tryd.func40, Tryd.ntmps40
    go_wp2
    go_ret
    exact ⟨rfl, by repeat (first | exact Below.refl _ _ | apply pw_below_drewN | apply below_drew1)⟩

end Go.Proofs.YteaiaeejdcmefaaDoor.T
