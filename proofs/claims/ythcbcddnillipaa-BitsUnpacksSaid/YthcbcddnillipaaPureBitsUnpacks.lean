/- Statement BitsUnpacks: any bytes are unpacked to the numbers, or have the error, that the document says, and so is what stands at any place; no condition. -/
import Derived.Test.YthcbcddnillipaaSx2
import Derived.Test.YthcbcddnillipaaHbitstellS
import Derived.Test.YthcbcddnillipaaHawake02S
namespace Go.Proofs.Ythcbcddnillipaa.Pure
open Go.RowKit Go.Proofs.Ythcbcddnillipaa.S Go.Proofs.Ythcbcddnillipaa.Hnum Go.Proofs.Ythcbcddnillipaa.Hbits Go.Proofs.Ythcbcddnillipaa.Hbitnum Go.Proofs.YthcbcddnillipaaW.PrintWords Go.Proofs.YthcbcddnillipaaW.PrintLast
theorem ints (l : List Int) : winnowerref01_Ints.f l l = some true := by unfold winnowerref01_Ints.f; rw [decide_eq_true rfl]
theorem BitsUnpacks : winnowerlaw02_BitsUnpacks.Pure := by
  intro l n a i _ _ hl hn ha hi
  have hb := Bytes.of_wf hl
  have ha := i64_of_wf ha
  have hi := i64_of_wf hi
  refine ⟨1, ?_⟩
  unfold winnowerlaw02_BitsUnpacks.f
  rw [awake02, Option.bind_some, if_pos rfl, winnowerlaw02_BitsUnpacks.j0]
  by_cases h6 : (l.length : Int) > 600
  · rw [if_pos (decide_eq_true h6)]
  · have hlen : l.length ≤ 1000000 := by omega
    have hr : winnowerref02_Unpack.f l n a = some (unpackT l n a) := by unfold winnowerref02_Unpack.f; rw [if_pos ⟨hb, hlen⟩]
    have ht : winnowerref02_At.f l i a = some (atT l i a) := by unfold winnowerref02_At.f; rw [if_pos ⟨hb, hlen, hi, ha⟩]
    rw [if_neg (by simpa using h6), Unpack_tell hb hlen, Option.bind_some, hr, Option.bind_some, ints, Option.bind_some, if_pos rfl, if_pos rfl, At_tell hb hlen hi ha, Option.bind_some, ht, Option.bind_some, beq_self_eq_true]
end Go.Proofs.Ythcbcddnillipaa.Pure
