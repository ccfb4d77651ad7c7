/- The runs of a list, in plain words. -/
import Derived.Laws.BitsLemmas
import Derived.Test.YtnlfhjhdnompaaaWWords
import Derived.Test.YtnlfhjhdnompaaaWMore
import Derived.Test.YtnlfhjhdnompaaaHnum
namespace Go.Proofs.Ytnlfhjhdnompaaa.Hruns
open Go.RowKit Go.Proofs.YtnlfhjhdnompaaaW.PrintWords Go.Proofs.YtnlfhjhdnompaaaW.PrintLast Go.Proofs.YtnlfhjhdnompaaaW.PrintMore Go.Proofs.Ytnlfhjhdnompaaa.Hnum
set_option linter.unusedVariables false
/-- The runs that have ended when so many numbers have been seen, and where the one under way began. -/
def stR (l : List Int) : Nat → List (Int × Int) × Nat
  | 0 => ([], 0)
  | i + 1 => if i + 1 < l.length ∧ l.getD (i + 1) 0 = l.getD i 0 then stR l i else ((stR l i).1 ++ [(l.getD i 0, ((i + 1 - (stR l i).2 : Nat) : Int))], i + 1)
def runsOf (l : List Int) : List (Int × Int) := (stR l l.length).1
theorem stR_more {l : List Int} {i : Nat} (h : i + 1 < l.length ∧ l.getD (i + 1) 0 = l.getD i 0) : stR l (i + 1) = stR l i := by rw [stR, if_pos h]
theorem stR_end {l : List Int} {i : Nat} (h : ¬ (i + 1 < l.length ∧ l.getD (i + 1) 0 = l.getD i 0)) : stR l (i + 1) = ((stR l i).1 ++ [(l.getD i 0, ((i + 1 - (stR l i).2 : Nat) : Int))], i + 1) := by rw [stR, if_neg h]
theorem stR_le (l : List Int) (i : Nat) : (stR l i).2 ≤ i ∧ (stR l i).1.length ≤ i := by
  induction i with
  | zero => exact ⟨Nat.le_refl _, Nat.le_refl _⟩
  | succ i ih =>
    by_cases h : i + 1 < l.length ∧ l.getD (i + 1) 0 = l.getD i 0
    · rw [stR_more h]; exact ⟨by omega, by omega⟩
    · rw [stR_end h]; exact ⟨Nat.le_refl _, by simp only [List.length_append, List.length_singleton]; omega⟩
/-- What each run of l is. -/
abbrev Rn (l : List Int) : Type := {r : Int × Int // r.1 ∈ l ∧ 1 ≤ r.2 ∧ r.2 ≤ (l.length : Int)}
/-- The same runs, each told to be one. -/
def stP (l : List Int) : Nat → List (Rn l)
  | 0 => []
  | i + 1 => if i + 1 < l.length ∧ l.getD (i + 1) 0 = l.getD i 0 then stP l i else
    if h : l.getD i 0 ∈ l ∧ 1 ≤ ((i + 1 - (stR l i).2 : Nat) : Int) ∧ ((i + 1 - (stR l i).2 : Nat) : Int) ≤ (l.length : Int) then stP l i ++ [⟨(l.getD i 0, ((i + 1 - (stR l i).2 : Nat) : Int)), h⟩] else stP l i
theorem getD_mem {l : List Int} {i : Nat} (h : i < l.length) : l.getD i 0 ∈ l := by
  rw [List.getD_eq_getElem?_getD, List.getElem?_eq_getElem h]; exact List.getElem_mem h
theorem Rn_of {l : List Int} {i : Nat} {x : Int} (h : i < l.length) (hx : x = l.getD i 0) : x ∈ l ∧ 1 ≤ (i : Int) + 1 - ((stR l i).2 : Int) ∧ (i : Int) + 1 - ((stR l i).2 : Int) ≤ (l.length : Int) := by
  have := (stR_le l i).1
  exact ⟨hx ▸ getD_mem h, by omega, by omega⟩
theorem stP_more {l : List Int} {i : Nat} (h : i + 1 < l.length ∧ l.getD (i + 1) 0 = l.getD i 0) : stP l (i + 1) = stP l i := by rw [stP, if_pos h]
theorem stP_end {l : List Int} {i : Nat} {x : Int} (hi : i < l.length) (hx : x = l.getD i 0) (h : ¬ (i + 1 < l.length ∧ l.getD (i + 1) 0 = l.getD i 0)) :
    stP l (i + 1) = stP l i ++ [⟨(x, (i : Int) + 1 - ((stR l i).2 : Int)), Rn_of hi hx⟩] := by
  have e : ((i + 1 - (stR l i).2 : Nat) : Int) = (i : Int) + 1 - ((stR l i).2 : Int) := by have := (stR_le l i).1; omega
  have hP := Rn_of hi hx
  subst hx
  rw [stP, if_neg h, dif_pos (by rw [e]; exact hP)]
  congr 3
  all_goals (first | exact e | exact Subtype.ext (by rw [e]) | simp [e])
theorem stP_val (l : List Int) : ∀ i, i ≤ l.length → (stP l i).map (fun r => r.1) = (stR l i).1 := by
  intro i
  induction i with
  | zero => intro _; rfl
  | succ i ih =>
    intro hi
    by_cases h : i + 1 < l.length ∧ l.getD (i + 1) 0 = l.getD i 0
    · rw [stP_more h, stR_more h]; exact ih (by omega)
    · rw [stP_end (by omega) rfl h, stR_end h, List.map_append, ih (by omega)]
      have := (stR_le l i).1
      have e : (i : Int) + 1 - ((stR l i).2 : Int) = ((i + 1 - (stR l i).2 : Nat) : Int) := by omega
      simp only [List.map_cons, List.map_nil, e]
theorem stP_le (l : List Int) (i : Nat) : (stP l i).length ≤ i := by
  induction i with
  | zero => exact Nat.le_refl _
  | succ i ih =>
    rw [stP]
    split
    · omega
    · split
      · simp only [List.length_append, List.length_singleton]; omega
      · omega
end Go.Proofs.Ytnlfhjhdnompaaa.Hruns
