/- What the document's Runs and Deltas of layer 3 answer, in plain words. -/
import Derived.Test.YtnlfhjhdnompaaaHnum
import Derived.Test.YtnlfhjhdnompaaaHruns
import Derived.Test.YtnlfhjhdnompaaaHrl
import Derived.Test.YtnlfhjhdnompaaaTx0
import Derived.Test.YtnlfhjhdnompaaaTx9
import Derived.Test.YtnlfhjhdnompaaaTx17
import Derived.Test.YtnlfhjhdnompaaaTx18
import Derived.Test.YtnlfhjhdnompaaaTx19
namespace Go.Proofs.Ytnlfhjhdnompaaa.T
open Go.RowKit Go.Proofs.YtnlfhjhdnompaaaW.PrintWords Go.Proofs.YtnlfhjhdnompaaaW.PrintLast Go.Proofs.YtnlfhjhdnompaaaW.PrintMore
attribute [local go_sem] max2_int min2_int max_two min_two max_three min_three max_four min_four   -- for this text's walks alone
set_option linter.unusedVariables false
set_option linter.unusedSimpArgs false

-- SAYS What the document's Runs and Deltas of layer 3 answer, in plain words.
-- FUNCS winnower/winnowerref03.Runs winnower/winnowerref03.Deltas winnower/runs.Encode
-- NEEDS winnowerref03_Runs.f winnowerref03_Deltas.f mkR dels
-- IMPORT Derived.Test.YtnlfhjhdnompaaaHnum
-- IMPORT Derived.Test.YtnlfhjhdnompaaaHruns
-- IMPORT Derived.Test.YtnlfhjhdnompaaaHrl
open Go.Proofs.Ytnlfhjhdnompaaa.Hnum Go.Proofs.Ytnlfhjhdnompaaa.Hruns Go.Proofs.Ytnlfhjhdnompaaa.Hrl
theorem mkR_length (r : List (Int × Int)) : (mkR r).length = r.length := by simp [mkR]
theorem mkR_more (a b : List (Int × Int)) : mkR (a ++ b) = mkR a ++ mkR b := by simp [mkR]
theorem behind_shape (y : Int) (r : List (Int × Int)) (h : okR r) : ∃ p n, behind y r = p ++ [(y, n)] ∧ 1 ≤ n := by
  rcases List.eq_nil_or_concat r with rfl | ⟨p, a, rfl⟩
  · exact ⟨[], 1, rfl, by omega⟩
  · rw [List.concat_eq_append, behind_last]
    have ha := h a (by simp)
    by_cases e : a.1 = y
    · rw [if_pos e, e]
      exact ⟨p, a.2 + 1, rfl, by omega⟩
    · rw [if_neg e]
      exact ⟨p ++ [a], 1, by simp, by omega⟩
theorem rl_take_len (l : List Int) (i : Nat) : (rl (l.take i)).length ≤ i := by
  have h := rl_len (l.take i)
  rw [List.length_take] at h
  omega
theorem refruns_go {l : List Int} (hl : l.length ≤ 1000000) (q : Nat) : ∀ (d i : Nat), i + d = l.length → winnowerref03_Runs.l0 (d + q + 1) l (mkR (rl (l.take i))) (i : Int) = some (mkR (rl l)) := by
  intro d
  induction d with
  | zero => intro i h; rw [winnowerref03_Runs.l0, if_neg (by omega), List.take_of_length_le (by omega)]
  | succ d ih =>
    intro i h
    have hlt : i < l.length := by omega
    have hn := rl_take_len l i
    have hrd : ∀ j : Nat, rd l (j : Int) = l.getD j 0 := fun j => by rw [rd, Int.toNat_natCast]
    have hh := ih (i + 1) (by omega)
    rw [rl_take_succ hlt] at hh
    have ei : (i : Int) + 1 = ((i + 1 : Nat) : Int) := by omega
    rw [show d + 1 + q + 1 = (d + q + 1) + 1 from by omega, winnowerref03_Runs.l0, if_pos (by omega), wrap_id (x := (i : Int) + 1) (by omega) (by omega), hrd i]
    by_cases h0 : i = 0
    · subst h0
      rw [if_neg (by omega), if_pos (by omega), if_pos (by rw [mkR_length]; omega), ei]
      exact hh
    · obtain ⟨j, rfl⟩ : ∃ j, i = j + 1 := ⟨i - 1, by omega⟩
      obtain ⟨p, n, hp, hn1⟩ := behind_shape (l.getD j 0) (rl (l.take j)) (rl_ok _)
      rw [rl_take_succ (by omega), hp] at hh hn ⊢
      have hnb : n ≤ 1000000 := by
        have hu := flat_one (rl_ok (l.take (j + 1))) (a := (l.getD j 0, n)) (by rw [rl_take_succ (by omega), hp]; simp)
        rw [flat_rl, List.length_take] at hu
        simp only at hu
        omega
      have e1 : wrap64 (((j + 1 : Nat) : Int) - 1) = (j : Int) := by rw [wrap_id (by omega) (by omega)]; omega
      have e2 : wrap64 (((mkR (p ++ [(l.getD j 0, n)])).length : Int) - 1) = (p.length : Int) := by
        rw [List.length_append, List.length_singleton] at hn
        rw [mkR_length, List.length_append, List.length_singleton, wrap_id (by omega) (by omega)]; omega
      have e3 : rd_T35 (mkR (p ++ [(l.getD j 0, n)])) (p.length : Int) = ⟨l.getD j 0, n⟩ := by
        rw [rd_T35, Int.toNat_natCast, mkR_more, List.getD_eq_getElem?_getD, List.getElem?_append_right (by rw [mkR_length]; exact Nat.le_refl _), mkR_length, Nat.sub_self]; rfl
      rw [if_pos (by omega), if_pos (by omega), e1, if_pos (by omega), if_pos (by omega), hrd j]
      rw [behind_last] at hh
      simp only at hh
      by_cases e : l.getD (j + 1) 0 = l.getD j 0
      · rw [if_pos e, e2, if_pos (by omega), if_pos (by rw [mkR_length, List.length_append, List.length_singleton]; omega), e3, ei]
        rw [if_pos e.symm] at hh
        rw [← hh]
        congr 1
        simp only
        rw [wrap_id (by omega) (by omega), Int.toNat_natCast, mkR_more, List.set_append_right _ _ (by rw [mkR_length]; exact Nat.le_refl _), mkR_length, Nat.sub_self, mkR_more]; rfl
      · rw [if_neg e, if_pos (by rw [mkR_length]; omega), ei]
        rw [if_neg (fun x => e x.symm)] at hh
        rw [← hh]
        congr 1
        rw [show p ++ [(l.getD j 0, n), (l.getD (j + 1) 0, 1)] = (p ++ [(l.getD j 0, n)]) ++ [(l.getD (j + 1) 0, 1)] from by simp, mkR_more (p ++ [(l.getD j 0, n)])]; rfl
theorem refruns_tell {l : List Int} (hl : l.length ≤ 1000000) {k : Nat} (hk : l.length + 1 ≤ k) : winnowerref03_Runs.f k l = some (mkR (rl l)) := by
  obtain ⟨j, rfl⟩ := Nat.exists_eq_add_of_le hk
  rw [winnowerref03_Runs.f, show l.length + 1 + j = l.length + j + 1 from by omega]
  exact refruns_go hl j l.length 0 (by omega)
theorem dels_snoc (x : Int) : ∀ (l : List Int) (last : Int), dels last (l ++ [x]) = dels last l ++ [wrap64 (x - (l.getLast?.getD last))]
  | [], last => rfl
  | [a], last => rfl
  | a :: b :: t, last => by
    rw [List.cons_append, dels, dels_snoc x (b :: t) a, dels]
    rfl
theorem refdels_go {l : List Int} (hl : l.length ≤ 1000000) (hi : ∀ x ∈ l, i64 x) (q : Nat) : ∀ (d i : Nat), i + d = l.length → winnowerref03_Deltas.l0 (d + q + 1) l (dels 0 (l.take i)) (i : Int) = some (dels 0 l) := by
  intro d
  induction d with
  | zero => intro i h; rw [winnowerref03_Deltas.l0, if_neg (by omega), List.take_of_length_le (by omega)]
  | succ d ih =>
    intro i h
    have hlt : i < l.length := by omega
    have hrd : ∀ j : Nat, (hj : j < l.length) → rd l (j : Int) = l[j] := fun j hj => by rw [rd, Int.toNat_natCast, List.getD_eq_getElem?_getD, List.getElem?_eq_getElem hj]; rfl
    have hln : (dels 0 (l.take i)).length = i := by rw [dels_len, List.length_take]; omega
    have ei : (i : Int) + 1 = ((i + 1 : Nat) : Int) := by omega
    have hh := ih (i + 1) (by omega)
    rw [List.take_succ_eq_append_getElem hlt, dels_snoc] at hh
    rw [show d + 1 + q + 1 = (d + q + 1) + 1 from by omega, winnowerref03_Deltas.l0, if_pos (by omega), wrap_id (x := (i : Int) + 1) (by omega) (by omega), hrd i hlt]
    by_cases h0 : i = 0
    · subst h0
      have hx := hi _ (List.getElem_mem hlt)
      unfold i64 at hx
      rw [if_pos (show ((0 : Nat) : Int) = 0 from rfl), if_pos (by omega), if_pos (by omega), ei, ← hh]
      have e0 : rd l 0 = l[0] := hrd 0 hlt
      rw [e0]
      congr 2
      simp only [List.take_zero, List.getLast?_nil, Option.getD_none]
      rw [wrap_id (by omega) (by omega), Int.sub_zero]
    · obtain ⟨j, rfl⟩ : ∃ j, i = j + 1 := ⟨i - 1, by omega⟩
      have e1 : wrap64 (((j + 1 : Nat) : Int) - 1) = (j : Int) := by rw [wrap_id (by omega) (by omega)]; omega
      have e2 : (l.take (j + 1)).getLast?.getD 0 = l[j] := by rw [List.take_succ_eq_append_getElem (by omega), List.getLast?_append]; rfl
      rw [e2] at hh
      rw [if_neg (by omega), if_pos (by omega), e1, if_pos (by omega), if_pos (by omega), hrd j (by omega), if_pos (by omega), ei, ← hh]
theorem refdels_tell {l : List Int} (hl : l.length ≤ 1000000) (hi : ∀ x ∈ l, i64 x) {k : Nat} (hk : l.length + 1 ≤ k) : winnowerref03_Deltas.f k l = some (dels 0 l) := by
  obtain ⟨j, rfl⟩ := Nat.exists_eq_add_of_le hk
  rw [winnowerref03_Deltas.f, show l.length + 1 + j = l.length + j + 1 from by omega]
  exact refdels_go hl hi j l.length 0 (by omega)

end Go.Proofs.Ytnlfhjhdnompaaa.T
