/- The machine side of laws, written by wip/tools/myprint.py (the printer's way, with functions proved by hand put in); Lean checks it. -/
import Derived.Test.YteaiaeejdcmefaaDoorHbitset
import Derived.Test.YteaiaeejdcmefaaDoorHset09T
import Derived.Test.YteaiaeejdcmefaaDoorTx0
import Derived.Test.YteaiaeejdcmefaaDoorTx3
import Derived.Test.YteaiaeejdcmefaaDoorTx9
import Derived.Test.YteaiaeejdcmefaaDoorTx10
import Derived.Test.YteaiaeejdcmefaaDoorTx11
import Derived.Test.YteaiaeejdcmefaaDoorTx12
namespace Go.Proofs.YteaiaeejdcmefaaDoor.T
open Go.RowKit Go.Proofs.YteaiaeejdcmefaaDoorW.PrintWords Go.Proofs.YteaiaeejdcmefaaDoorW.PrintLast Go.Proofs.YteaiaeejdcmefaaDoorW.PrintMore
attribute [local go_sem] max2_int min2_int max_two min_two max_three min_three max_four min_four   -- for this text's walks alone
set_option linter.unusedVariables false
set_option linter.unusedSimpArgs false

-- BY HAND: Derived.Test.YteaiaeejdcmefaaDoorHbitset,Derived.Test.YteaiaeejdcmefaaDoorHset09T
/-! ### winnowerlaw09_awake: function 7 -/
-- HAND winnower/winnowerlaw09.awake over making glob lawlike
-- LAWS BitsetTells
-- IMPORT Derived.Test.YteaiaeejdcmefaaDoorHbitset
-- IMPORT Derived.Test.YteaiaeejdcmefaaDoorHset09T
open Go.Proofs.YteaiaeejdcmefaaDoor.Hbitset
theorem awake09 {k : Nat} (hk : 3000 < k) : winnowerlaw09_awake_p.f k = some true := by
  have e1 : ofL [] [3, 1, 3, -1] = [10] := by decide
  have e2 : ofL [] [1, 3] = [10] := by decide
  have e3 : notL [10] 3 = [5] := by decide +kernel
  have b1 : Bs [10] := ⟨fun x hx => by rw [List.mem_singleton.1 hx]; decide, by decide⟩
  have l1 : winnowerlaw09_List.f [10] (-1) = some [1, 3] := by decide +kernel
  have l2 : winnowerlaw09_List.f [5] (-1) = some [0, 2] := by decide +kernel
  have c1 : bitset_Set_Count.f k [10] = some 2 := by
    rw [bitset_Set_Count.f, show (0 : Int) = ((0 : Nat) : Int) from rfl, count_from [10] b1 1 k 0 0 (by decide) (by decide) (by omega)]
    decide +kernel
  have h3 : bitset_Set_Has.f [10] 3 = some true := by decide +kernel
  have s1 := same_yes b1 b1 (k := k) (by omega) (fun i => rfl)
  unfold winnowerlaw09_awake_p.f
  rw [bitset_Of.f, e1, Option.bind_some, l1, Option.bind_some, winnowerref01_Ints.f, decide_eq_true rfl, Option.bind_some, not_tell, e3, Option.bind_some, l2, Option.bind_some, winnowerref01_Ints.f, decide_eq_true rfl, Option.bind_some, if_pos rfl, if_pos rfl, c1, Option.bind_some, if_pos rfl, h3, Option.bind_some, if_pos rfl, bitset_Of.f, e2, Option.bind_some, s1, Option.bind_some]
def winnowerlaw09_awake.f : Option Bool := some true
theorem winnowerlaw09_awake.calls (r : Bool) (w : World) (hG : Globs w) (h : winnowerlaw09_awake.f = some r) :
    Calls Tryd.prog 7 #[] w fun e w' => e = .returned (.bool r) ∧ Below w.heap.size w w' :=
  winnowerlaw09_awake_p.calls 3001 r w hG (Option.some.inj h).symm ((awake09 (by omega)).trans h)

end Go.Proofs.YteaiaeejdcmefaaDoor.T
