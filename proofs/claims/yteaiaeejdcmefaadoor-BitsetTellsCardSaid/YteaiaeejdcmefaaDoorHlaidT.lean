/- What the listed variable of the library gives: the table's cells. -/
import Derived.Test.YteaiaeejdcmefaaDoorRows
import Derived.ProofKit
import Derived.LaidMore
import Derived.OpenShut
import Derived.Stop.Joined
import Derived.Lib.TrailingZeros
import Derived.Test.YteaiaeejdcmefaaDoorTx0
import Derived.Test.YteaiaeejdcmefaaDoorTx11
namespace Go.Proofs.YteaiaeejdcmefaaDoor.T
open Go.RowKit Go.Proofs.YteaiaeejdcmefaaDoorW.PrintWords Go.Proofs.YteaiaeejdcmefaaDoorW.PrintLast Go.Proofs.YteaiaeejdcmefaaDoorW.PrintMore
attribute [local go_sem] max2_int min2_int max_two min_two max_three min_three max_four min_four   -- for this text's walks alone
set_option linter.unusedVariables false
set_option linter.unusedSimpArgs false

-- SAYS What the listed variable of the library gives: the table's cells.
-- FUNCS winnower/winnowerlaw09.List
-- NEEDS Globs
-- IMPORT Derived.Test.YteaiaeejdcmefaaDoorRows
-- IMPORT Derived.ProofKit
-- IMPORT Derived.LaidMore
-- IMPORT Derived.OpenShut
-- IMPORT Derived.Stop.Joined
-- IMPORT Derived.Lib.TrailingZeros
namespace Laid
open Go.ChangeShapes Go.WideShapes Go.ChangeAt Go.WideMaps Go.WideElems
theorem gTab : Tryd.prog.globalNamed "math/bits.deBruijn64tab" = some 0 := by kernel_rfl
theorem tTab : (Tryd.prog.globals[0]?).map (·.type) = some 55 := by kernel_rfl
theorem door_met (os : Os) (args : Array Value) : laidMetH Tryd.prog [("math/bits.deBruijn64tab", Rows.laid_math_bits_deBruijn64tab)] ((World.doorLaid Tryd.prog 400 os).forCall (fun _ _ => 0) ⟨#[], args, []⟩).memory :=
  laidMetH_of_parts3 (fuel := 8) (laidMet_of_run' 8 (by kernel_rfl) (by kernel_rfl)) (by kernel_rfl) (by kernel_rfl)
theorem globs_of_laid {W : World} (h : laidMetH Tryd.prog [("math/bits.deBruijn64tab", Rows.laid_math_bits_deBruijn64tab)] W) : Globs W := by
  rw [MakeChecks.laidMetH_plain _ _ _ (by kernel_rfl)] at h
  obtain ⟨ps, ⟨g0, t0, cs0, f0, p0, q0, hg0, ht0, hv0, hd0, _, _⟩, _, _⟩ := h
  obtain rfl := Option.some.inj (gTab.symm.trans hg0)
  obtain rfl := Option.some.inj (tTab.symm.trans ht0)
  obtain ⟨xs, m1, rfl, hx1, hlen, hn3, hel⟩ := DataW.trod_array Tryd.underlying55 hd0
  have c5 : Tryd.prog.cellsOf 5 = 1 := by kernel_rfl
  simp only [Prod.mk.injEq] at hx1
  have hl : Lib.deBruijn64tab.length = 64 := by decide
  intro j hj
  rw [hl] at hj
  have hj' := hel j hj
  have hc := World.var?_cell hg0 hv0 j
  have hjx : j < xs.length := by omega
  rw [List.getElem?_eq_getElem hjx] at hj'
  obtain ⟨k, e1, e2, _⟩ := DataW.trod_int Tryd.underlying5 hj'
  rw [c5, Nat.mul_one] at e1
  have e3 : (Rows.laid_math_bits_deBruijn64tab : DataW Unit) = .agg (Lib.deBruijn64tab.map fun (n : Nat) => .lit (.int .u8 (n : Int))) := rfl
  rw [e3] at hx1
  have e4 := DataW.agg.inj hx1.1
  have e5 := congrArg (fun l => l[j]?) e4
  simp only [List.getElem?_map, List.getElem?_eq_getElem hjx, List.getElem?_eq_getElem (show j < Lib.deBruijn64tab.length by omega), Option.map_some] at e5
  rw [e2] at e5
  have e6 : ((Lib.deBruijn64tab[j]'(by omega) : Nat) : Int) = k := by
    have := Option.some.inj e5
    injection this with this
    injection this
  rw [hc, List.getD_eq_getElem?_getD, List.getElem?_eq_getElem (show j < Lib.deBruijn64tab.length by omega), Option.getD_some, e6]
  obtain ⟨l⟩ := cs0
  have e7 := congrArg (fun l => l[0]?) e1
  simp only [List.getElem?_take, List.getElem?_drop, Nat.add_zero] at e7
  simpa using e7
end Laid

end Go.Proofs.YteaiaeejdcmefaaDoor.T
