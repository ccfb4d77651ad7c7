/- Statement NumPuts: any number is put behind any bytes as the document says, and is as long as it says, and the bytes stay; no condition. -/
import Derived.Test.YtdbdgcnblpeciaaRx10
import Derived.Test.YtdbdgcnblpeciaaHnumputR
import Derived.Test.YtdbdgcnblpeciaaHawake01R
namespace Go.Proofs.Ytdbdgcnblpeciaa.Pure
open Go.RowKit Go.Proofs.Ytdbdgcnblpeciaa.R Go.Proofs.Ytdbdgcnblpeciaa.Hnum Go.Proofs.YtdbdgcnblpeciaaW.PrintWords Go.Proofs.YtdbdgcnblpeciaaW.PrintLast
theorem refPut {a : Int} (h : i64 a) : winnowerref01_Put.f a = some (digs (fold a)) := by
  unfold i64 at h
  unfold winnowerref01_Put.f
  by_cases h0 : a < 0
  · have e : wrap64 (-(wrap64 (a + 1))) = -(a + 1) := by rw [wrap_id (x := a + 1) (by omega) (by omega), wrap_id (by omega) (by omega)]
    have e2 : (2 * (-(a + 1)) + 1).toNat = fold a := by unfold fold; rw [if_neg (by omega)]; omega
    rw [if_pos h0, e]
    unfold winnowerref01_digits.f
    rw [if_pos ⟨by omega, by omega, by omega, by omega⟩, Option.bind_some, e2]
  · have e2 : (2 * a + 0).toNat = fold a := by unfold fold; rw [if_pos (by omega)]; omega
    rw [if_neg h0]
    unfold winnowerref01_digits.f
    rw [if_pos ⟨by omega, by omega, by omega, by omega⟩, Option.bind_some, e2]
theorem refPutLen {a : Nat} (h : a ≤ 9223372036854775807) : winnowerref01_PutLen.f (a : Int) = some (digs a) := by
  unfold winnowerref01_PutLen.f
  have e1 : wrap64 (Int.tdiv (a : Int) 2) = ((a / 2 : Nat) : Int) := by rw [Int.tdiv_eq_ediv_of_nonneg (by omega), wrap_id (by omega) (by omega)]; omega
  have e2 : Int.tmod (a : Int) 2 = ((a % 2 : Nat) : Int) := by rw [Int.tmod_eq_emod_of_nonneg (by omega)]; omega
  have e3 : (2 * ((a / 2 : Nat) : Int) + ((a % 2 : Nat) : Int)).toNat = a := by omega
  rw [if_neg (by omega), e1, e2]
  unfold winnowerref01_digits.f
  rw [if_pos ⟨by omega, by omega, by omega, by omega⟩, Option.bind_some, e3]
theorem same (l : List Int) : winnowerref01_Same.f l l = some true := by unfold winnowerref01_Same.f; rw [decide_eq_true rfl]
theorem NumPuts : winnowerlaw01_NumPuts.Pure := by
  intro l a _ _ _ ha
  have ha := i64_of_wf ha
  refine ⟨1, ?_⟩
  unfold winnowerlaw01_NumPuts.f
  rw [awake01, Option.bind_some, if_pos rfl, winnowerlaw01_NumPuts.j0]
  by_cases h6 : (l.length : Int) > 600
  · rw [if_pos (decide_eq_true h6)]
  · rw [if_neg (by simpa using h6)]
    have hd := digs_le_ten (fold_lt ha)
    have hs : num_Size.f a = some ((digs (fold a)).length : Int) := by unfold num_Size.f; rw [if_pos ha]
    have hr : rd (l ++ [77]) (l.length : Int) = 77 := by rw [rd, Int.toNat_natCast, List.getD_eq_getElem?_getD, List.getElem?_append_right (Nat.le_refl _)]; simp
    rw [if_pos (by simp only [List.length_nil]; omega), List.nil_append, Option.bind_some, if_pos (by omega), Option.bind_some, if_pos (by omega), if_pos (by rw [List.length_append]; omega), Int.toNat_natCast, List.take_left, Option.bind_some, num_Put.tell ha (by omega), Option.bind_some]
    have hend : ∀ t : Bool, t = true → (if t = true then (if (l.length : Int) < ((l ++ [77]).length : Int) then (if rd (l ++ [77]) (l.length : Int) = 77 then ((num_Size.f a).bind fun t204 => ((some (digs (fold a))).bind fun t205 => (some (t204 == (t205.length : Int))))) else (some false)) else (none)) else (some false)) = some true := by
      intro t ht
      rw [if_pos ht, if_pos (by rw [List.length_append]; simp only [List.length_singleton]; omega), if_pos hr, hs, Option.bind_some, Option.bind_some, beq_self_eq_true]
    by_cases h0 : a < 0
    · rw [num_PutLen.neg h0, Option.bind_some, Option.bind_some, refPut ha, Option.bind_some, if_pos (by omega), same, Option.bind_some, Option.bind_some]
      have hp : winnowerref01_PutLen.f a = some [] := by unfold winnowerref01_PutLen.f; rw [if_pos h0]
      rw [hp, Option.bind_some, if_pos (by simp only [List.length_nil]; omega), List.append_nil, same, Option.bind_some, if_pos rfl]
      exact hend true rfl
    · unfold i64 at ha
      obtain ⟨n, rfl⟩ := Int.eq_ofNat_of_zero_le (show 0 ≤ a by omega)
      have hd2 := digs_le_ten (u := n) (by omega)
      rw [num_PutLen.tell (by omega) (by omega), Option.bind_some, Option.bind_some, refPut ha, Option.bind_some, if_pos (by omega), same, Option.bind_some, Option.bind_some, refPutLen (by omega), Option.bind_some, if_pos (by omega), same, Option.bind_some, if_pos rfl]
      exact hend true rfl
end Go.Proofs.Ytdbdgcnblpeciaa.Pure
