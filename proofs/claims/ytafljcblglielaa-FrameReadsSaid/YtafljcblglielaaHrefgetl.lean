/- What the document's GetLen of layer 1 answers, in plain words. -/
import Derived.Test.YtafljcblglielaaHnum
import Derived.Test.YtafljcblglielaaQx0
import Derived.Test.YtafljcblglielaaQx12
import Derived.Test.YtafljcblglielaaQx14
import Derived.Test.YtafljcblglielaaQx15
namespace Go.Proofs.Ytafljcblglielaa.Q
open Go.RowKit Go.Proofs.YtafljcblglielaaW.PrintWords Go.Proofs.YtafljcblglielaaW.PrintLast Go.Proofs.YtafljcblglielaaW.PrintMore
attribute [local go_sem] max2_int min2_int max_two min_two max_three min_three max_four min_four   -- for this text's walks alone
set_option linter.unusedVariables false
set_option linter.unusedSimpArgs false

-- SAYS What the document's GetLen of layer 1 answers, in plain words.
-- FUNCS winnower/winnowerref01.GetLen
-- NEEDS winnowerref01_GetLen.f winnowerref01_run.f winnowerref01_halves.f
-- IMPORT Derived.Test.YtafljcblglielaaHnum
open Go.Proofs.Ytafljcblglielaa.Hnum
theorem getd_took {l : List Int} : ∀ {k u n : Nat}, getd k l = .ok (u, n) → getd k (l.take n) = .ok (u, n) := by
  induction l with
  | nil => intro k u n h; cases h
  | cons d t ih =>
    intro k u n h
    rw [getd] at h
    by_cases h1 : k = 9 ∧ 1 < d
    · rw [if_pos h1] at h; cases h
    · rw [if_neg h1] at h
      by_cases h2 : 128 ≤ d
      · rw [if_pos h2] at h
        cases hg : getd (k + 1) t with
        | error e => rw [hg] at h; cases h
        | ok p =>
          obtain ⟨u', n'⟩ := p
          rw [hg] at h
          simp only [Except.ok.injEq, Prod.mk.injEq] at h
          obtain ⟨rfl, rfl⟩ := h
          rw [List.take_succ_cons, getd, if_neg h1, if_pos h2, ih hg]
      · rw [if_neg h2] at h
        by_cases h3 : d = 0 ∧ 0 < k
        · rw [if_pos h3] at h; cases h
        · rw [if_neg h3] at h
          simp only [Except.ok.injEq, Prod.mk.injEq] at h
          obtain ⟨rfl, rfl⟩ := h
          rw [List.take_succ_cons, getd, if_neg h1, if_neg h2, if_neg h3]
theorem winnowerref01_halves.all {l : List Int} (hb : Bytes l) {u n : Nat} (hg : getd 0 l = .ok (u, n)) : winnowerref01_halves.f (l.take n) = some (((u / 2 : Nat) : Int), ((u % 2 : Nat) : Int)) := by
  have hn := (getd_ok (by omega) hb hg).2.1
  unfold winnowerref01_halves.f
  rw [if_pos (hb.take n), getd_took hg, winnowerref01_halves.at, if_pos (by rw [List.length_take]; omega)]
theorem winnowerref01_GetLen.tells {l : List Int} (hb : Bytes l) : winnowerref01_GetLen.f l = some (getl l) := by
  unfold winnowerref01_GetLen.f winnowerref01_run.f getl
  rw [if_pos hb, Option.bind_some]
  cases hg : getd 0 l with
  | error e =>
    have := getd_error hg
    rw [show winnowerref01_run.at 0 (.error e) = (0, e) from rfl, if_neg (show ¬ ((0, e) : Int × Int).2 = 0 from by show ¬ e = 0; omega)]
  | ok p =>
    obtain ⟨u, n⟩ := p
    obtain ⟨g1, g2, _, _, g5, _⟩ := getd_ok (by omega) hb hg
    rw [Nat.pow_zero, Nat.mul_one] at g5
    rw [show winnowerref01_run.at 0 (.ok (u, n)) = ((n : Int), 0) from by simp only [winnowerref01_run.at]; rw [Nat.zero_add], if_pos (show (((n : Int), 0) : Int × Int).2 = 0 from rfl), if_pos (show 0 ≤ (((n : Int), 0) : Int × Int).1 from by show 0 ≤ (n : Int); omega),
      if_pos (show (((n : Int), 0) : Int × Int).1 ≤ (l.length : Int) from by show (n : Int) ≤ (l.length : Int); omega), show (((n : Int), 0) : Int × Int).1.toNat = n from Int.toNat_natCast n, winnowerref01_halves.all hb hg, Option.bind_some]
    by_cases hu : u ≤ 9223372036854775807
    · rw [if_neg (show ¬ ((((u / 2 : Nat) : Int), ((u % 2 : Nat) : Int)) : Int × Int).1 > 4611686018427387903 from by show ¬ ((u / 2 : Nat) : Int) > 4611686018427387903; omega)]
      refine Eq.trans ?_ (congrArg some (if_pos hu).symm)
      show some (wrap64 (wrap64 (2 * ((u / 2 : Nat) : Int)) + ((u % 2 : Nat) : Int)), (n : Int), (0 : Int)) = some ((u : Int), (n : Int), (0 : Int))
      have e : (2 * ((u / 2 : Nat) : Int)) + ((u % 2 : Nat) : Int) = (u : Int) := by omega
      rw [wrap_id (x := 2 * ((u / 2 : Nat) : Int)) (by omega) (by omega), e, wrap_id (by omega) (by omega)]
    · rw [if_pos (show ((((u / 2 : Nat) : Int), ((u % 2 : Nat) : Int)) : Int × Int).1 > 4611686018427387903 from by show ((u / 2 : Nat) : Int) > 4611686018427387903; omega)]
      exact congrArg some (if_neg hu).symm

end Go.Proofs.Ytafljcblglielaa.Q
