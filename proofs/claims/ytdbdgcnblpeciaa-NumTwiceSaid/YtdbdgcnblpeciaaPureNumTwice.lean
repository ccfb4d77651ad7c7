/- Statement NumTwice: a number from 0 on, below 2^62, is put as its double is put as a length, and so it is got; no condition. -/
import Derived.Test.YtdbdgcnblpeciaaQx13
import Derived.Test.YtdbdgcnblpeciaaHnumtell
import Derived.Test.YtdbdgcnblpeciaaHawake01
namespace Go.Proofs.Ytdbdgcnblpeciaa.Pure
open Go.RowKit Go.Proofs.Ytdbdgcnblpeciaa.Q Go.Proofs.Ytdbdgcnblpeciaa.Hnum Go.Proofs.YtdbdgcnblpeciaaW.PrintWords Go.Proofs.YtdbdgcnblpeciaaW.PrintLast
theorem NumTwice : winnowerlaw01_NumTwice.Pure := by
  intro a ha
  have ha := i64_of_wf ha
  refine ⟨1, ?_⟩
  unfold winnowerlaw01_NumTwice.f
  rw [awake01]
  simp only [Option.bind_some, if_true, winnowerlaw01_NumTwice.j0]
  by_cases h0 : a < 0
  · rw [if_pos h0]
  · rw [if_neg h0]
    by_cases h1 : a > 4611686018427387903
    · rw [if_pos (decide_eq_true h1)]
    · rw [if_neg (by simpa using h1)]
      obtain ⟨n, rfl⟩ := Int.eq_ofNat_of_zero_le (show 0 ≤ a by omega)
      have e : fold (n : Int) = 2 * n := by unfold fold; rw [if_pos (by omega)]; omega
      have w : wrap64 (2 * (n : Int)) = ((2 * n : Nat) : Int) := by rw [wrap_id (by omega) (by omega)]; omega
      rw [num_Put.tell ha (by decide), w, num_PutLen.tell (by omega) (by decide), e]
      simp only [Option.bind_some, List.nil_append]
      rw [show winnowerref01_Same.f (digs (2 * n)) (digs (2 * n)) = some true from by unfold winnowerref01_Same.f; rw [decide_eq_true rfl], num_GetLen.tell (digs_bytes _)]
      have g := getl_digs (a := 2 * n) (by omega) []
      rw [List.append_nil] at g
      rw [g]
      simp only [Option.bind_some, if_true, beq_self_eq_true]
end Go.Proofs.Ytdbdgcnblpeciaa.Pure
