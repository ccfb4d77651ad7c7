/- Statement BitsPacks: any numbers are packed to the bytes, or have the error, that the document says, and any number is as wide as it says; no condition. -/
import Derived.Test.YthcbcddnillipaaQx19
import Derived.Test.YthcbcddnillipaaHbitstell
import Derived.Test.YthcbcddnillipaaHawake02
namespace Go.Proofs.Ythcbcddnillipaa.Pure
open Go.RowKit Go.Proofs.Ythcbcddnillipaa.Q Go.Proofs.Ythcbcddnillipaa.Hnum Go.Proofs.Ythcbcddnillipaa.Hbits Go.Proofs.Ythcbcddnillipaa.Hbitnum Go.Proofs.YthcbcddnillipaaW.PrintWords Go.Proofs.YthcbcddnillipaaW.PrintLast
theorem same (l : List Int) : winnowerref01_Same.f l l = some true := by unfold winnowerref01_Same.f; rw [decide_eq_true rfl]
theorem BitsPacks : winnowerlaw02_BitsPacks.Pure := by
  intro l a m _ _ hl _ hm
  have hl : ∀ x ∈ l, i64 x := fun x hx => i64_of_wf (hl x hx)
  have hm := i64_of_wf hm
  refine ⟨1, ?_⟩
  unfold winnowerlaw02_BitsPacks.f
  rw [awake02, Option.bind_some, if_pos rfl, winnowerlaw02_BitsPacks.j0]
  by_cases h5 : (l.length : Int) > 5000
  · rw [if_pos (decide_eq_true h5)]
  · have hr : winnowerref02_Pack.f l a = some (packT l a) := by unfold winnowerref02_Pack.f; rw [if_pos hl]
    have hw : winnowerref02_Width.f m = some (wide m) := by unfold winnowerref02_Width.f; rw [if_pos hm]
    rw [if_neg (by simpa using h5), Pack_tell hl, Option.bind_some, hr, Option.bind_some, same, Option.bind_some, if_pos rfl, if_pos rfl, bits_Width.tell hm.2, Option.bind_some, hw, Option.bind_some, beq_self_eq_true]
end Go.Proofs.Ythcbcddnillipaa.Pure
