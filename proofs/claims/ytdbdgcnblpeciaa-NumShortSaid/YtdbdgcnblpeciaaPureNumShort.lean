/- Statement NumShort: a number nearer to 0 never has more digits, its contrary has at most one more, and each number has from 1 to 10 digits; no condition. -/
import Derived.Test.YtdbdgcnblpeciaaQx10
import Derived.Test.YtdbdgcnblpeciaaHnumtell
import Derived.Test.YtdbdgcnblpeciaaHawake01
namespace Go.Proofs.Ytdbdgcnblpeciaa.Pure
open Go.RowKit Go.Proofs.Ytdbdgcnblpeciaa.Q Go.Proofs.Ytdbdgcnblpeciaa.Hnum Go.Proofs.YtdbdgcnblpeciaaW.PrintWords Go.Proofs.YtdbdgcnblpeciaaW.PrintLast
theorem NumShort : winnowerlaw01_NumShort.Pure := by
  intro a b ha hb
  have ha := i64_of_wf ha
  have hb := i64_of_wf hb
  refine ⟨2, ?_⟩
  have s1 : num_Size.f a = some ((digs (fold a)).length : Int) := by unfold num_Size.f; rw [if_pos ha]
  have s2 : num_Size.f b = some ((digs (fold b)).length : Int) := by unfold num_Size.f; rw [if_pos hb]
  have p1 := digs_pos (fold a)
  have p2 := digs_pos (fold b)
  have q1 := digs_le_ten (fold_lt ha)
  have q2 := digs_le_ten (fold_lt hb)
  unfold winnowerlaw01_NumShort.f
  rw [awake01, s1, s2]
  simp only [Option.bind_some, if_true]
  rw [if_neg (by omega), if_neg (by omega), if_neg (by omega), decide_eq_false (by omega)]
  simp only [winnowerlaw01_NumShort.j0]
  rw [if_neg (by decide)]
  have hm : (0 ≤ a ∧ a ≤ b ∨ a < 0 ∧ b ≤ a) → (digs (fold a)).length ≤ (digs (fold b)).length := by
    intro h
    apply digs_mono
    unfold fold
    rcases h with ⟨h1, h2⟩ | ⟨h1, h2⟩
    · rw [if_pos h1, if_pos (by omega)]; omega
    · rw [if_neg (by omega), if_neg (by omega)]; omega
  have hlast : winnowerlaw01_NumShort.j1 1 a ((digs (fold a)).length : Int) false = some true := by
    simp only [winnowerlaw01_NumShort.j1]
    rw [if_neg (by decide)]
    by_cases hz : a = wrap64 (-a)
    · rw [if_pos hz]
    · rw [if_neg hz]
      have hmin : a ≠ -9223372036854775808 := by rintro rfl; exact hz (by unfold wrap64; omega)
      unfold i64 at ha
      rw [wrap_id (by omega) (by omega)] at hz ⊢
      have s3 : num_Size.f (-a) = some ((digs (fold (-a))).length : Int) := by unfold num_Size.f; rw [if_pos (show i64 (-a) from ⟨by omega, by omega⟩)]
      rw [s3]
      simp only [Option.bind_some]
      have hd : (digs (fold (-a))).length ≤ (digs (fold a)).length + 1 ∧ (digs (fold a)).length ≤ (digs (fold (-a))).length + 1 := by
        by_cases h0 : 0 < a
        · have e : fold a = fold (-a) + 1 := by unfold fold; rw [if_pos (by omega), if_neg (by omega)]; omega
          exact ⟨by have := digs_mono (fold (-a)) (fold a) (by omega); omega, by rw [e]; exact digs_succ _⟩
        · have e : fold (-a) = fold a + 1 := by unfold fold; rw [if_pos (by omega), if_neg (by omega)]; omega
          exact ⟨by rw [e]; exact digs_succ _, by have := digs_mono (fold a) (fold (-a)) (by omega); omega⟩
      have q3 := digs_le_ten (u := fold (-a)) (fold_lt ⟨by omega, by omega⟩)
      rw [wrap_id (by omega) (by omega), wrap_id (by omega) (by omega), if_pos (by omega), decide_eq_true (by omega)]
  have hf : ∀ c : Prop, [Decidable c] → (c → (digs (fold a)).length ≤ (digs (fold b)).length) → True := fun _ _ _ => trivial
  by_cases h0 : a ≥ 0
  · rw [if_pos h0]
    by_cases h1 : b ≥ a
    · rw [if_pos h1, if_neg (by have := hm (.inl ⟨h0, h1⟩); omega), if_neg (by omega)]; exact hlast
    · rw [if_neg h1, if_neg (by omega)]; exact hlast
  · rw [if_neg h0, if_pos (by omega)]
    by_cases h1 : b ≤ a
    · rw [if_pos h1, decide_eq_false (by have := hm (.inr ⟨by omega, h1⟩); omega)]; exact hlast
    · rw [if_neg h1]; exact hlast
end Go.Proofs.Ytdbdgcnblpeciaa.Pure
