/- The law RunsTells, walked: what it computes is true. -/
import Derived.Test.YtnlfhjhdnompaaaHnum
import Derived.Test.YtnlfhjhdnompaaaHruns
import Derived.Test.YtnlfhjhdnompaaaHrl
import Derived.Test.YtnlfhjhdnompaaaHruns03T
import Derived.Test.YtnlfhjhdnompaaaHrefrunsT
import Derived.Test.YtnlfhjhdnompaaaTx0
import Derived.Test.YtnlfhjhdnompaaaTx9
import Derived.Test.YtnlfhjhdnompaaaTx13
import Derived.Test.YtnlfhjhdnompaaaTx17
import Derived.Test.YtnlfhjhdnompaaaTx18
import Derived.Test.YtnlfhjhdnompaaaTx19
import Derived.Test.YtnlfhjhdnompaaaTx20
namespace Go.Proofs.Ytnlfhjhdnompaaa.T
open Go.RowKit Go.Proofs.YtnlfhjhdnompaaaW.PrintWords Go.Proofs.YtnlfhjhdnompaaaW.PrintLast Go.Proofs.YtnlfhjhdnompaaaW.PrintMore
attribute [local go_sem] max2_int min2_int max_two min_two max_three min_three max_four min_four   -- for this text's walks alone
set_option linter.unusedVariables false
set_option linter.unusedSimpArgs false

-- SAYS The law RunsTells, walked: what it computes is true.
-- FUNCS winnower/winnowerlaw03.RunsTells
-- NEEDS winnowerlaw03_RunsTells.f winnowerref03_Runs.f winnowerref03_Flat.f winnowerref03_Sums.f winnowerref03_Deltas.f winnowerref03_Same.f runs_Flat.f runs_Sums.f runs_Deltas.f
-- IMPORT Derived.Test.YtnlfhjhdnompaaaHnum
-- IMPORT Derived.Test.YtnlfhjhdnompaaaHruns
-- IMPORT Derived.Test.YtnlfhjhdnompaaaHrl
-- IMPORT Derived.Test.YtnlfhjhdnompaaaHruns03T
-- IMPORT Derived.Test.YtnlfhjhdnompaaaHrefrunsT
open Go.Proofs.Ytnlfhjhdnompaaa.Hnum Go.Proofs.Ytnlfhjhdnompaaa.Hruns Go.Proofs.Ytnlfhjhdnompaaa.Hrl
abbrev SR := S35
theorem same_go (x : List SR) (hx : x.length ≤ 1000000) (q : Nat) : ∀ (d i : Nat), i + d = x.length → winnowerref03_Same.l0 (d + q + 1) x x (i : Int) = some true := by
  intro d
  induction d with
  | zero => intro i h; rw [winnowerref03_Same.l0, if_neg (by omega)]
  | succ d ih =>
    intro i h
    rw [show d + 1 + q + 1 = (d + q + 1) + 1 from by omega, winnowerref03_Same.l0, if_pos (by omega), if_pos (by omega), if_pos (by omega), if_neg (by simp), wrap_id (x := (i : Int) + 1) (by omega) (by omega), show (i : Int) + 1 = ((i + 1 : Nat) : Int) from by omega, ih (i + 1) (by omega)]
theorem same_tell {x : List SR} (hx : x.length ≤ 1000000) {k : Nat} (hk : x.length + 1 ≤ k) : winnowerref03_Same.f k x x = some true := by
  obtain ⟨j, rfl⟩ := Nat.exists_eq_add_of_le hk
  rw [winnowerref03_Same.f, if_pos rfl, show x.length + 1 + j = x.length + j + 1 from by omega]
  exact same_go x hx j x.length 0 (by omega)
/-- Any runs laid flat, or the error. -/
def flatT : List SR → List Int → List Int × Int
  | [], acc => (acc, 0)
  | r :: t, acc => if r.f1 < 1 then ([], 1) else if r.f1 > 4096 - (acc.length : Int) then ([], 2) else flatT t (acc ++ List.replicate r.f1.toNat r.f0)
theorem rd_at (r : List SR) (i : Nat) (h : i < r.length) : rd_T35 r (i : Int) = r[i] := by
  rw [rd_T35, Int.toNat_natCast, List.getD_eq_getElem?_getD, List.getElem?_eq_getElem h]; rfl
theorem flat1_reps (x7 : List SR) (x8 x9 v n : Int) (k : Nat) (N : Int) : ∀ (m : Nat) (acc : List Int) (i : Int), 0 ≤ i → i + m = N → N ≤ 1000000 → acc.length + m ≤ 1000000 →
    runs_Flat.l1 (m + k + 1) acc x7 x8 x9 N i v n = runs_Flat.l1 (k + 1) (acc ++ List.replicate m v) x7 x8 x9 N N v n := by
  intro m
  induction m with
  | zero => intro acc i _ h _ _; rw [List.replicate_zero, List.append_nil, Nat.zero_add, show i = N from by omega]
  | succ m ih =>
    intro acc i h0 h hN ha
    rw [show m + 1 + k + 1 = (m + k + 1) + 1 from by omega, runs_Flat.l1, if_pos (by omega), if_pos (by omega), wrap_id (x := i + 1) (by omega) (by omega), ih (acc ++ [v]) (i + 1) (by omega) (by omega) hN (by rw [List.length_append, List.length_singleton]; omega),
      List.append_assoc, List.replicate_succ]
    rfl
theorem flat1_go {r : List SR} (hr : r.length ≤ 1000000) : ∀ (d i : Nat) (acc : List Int) (k : Nat), i + d = r.length → acc.length ≤ 4096 → 5000 * d + 1 ≤ k → runs_Flat.l0 k acc r (r.length : Int) (i : Int) = some (flatT (r.drop i) acc) := by
  intro d
  induction d with
  | zero =>
    intro i acc k h _ hk
    obtain ⟨q, rfl⟩ : ∃ q, k = q + 1 := ⟨k - 1, by omega⟩
    rw [runs_Flat.l0, if_neg (by omega), List.drop_eq_nil_of_le (by omega)]; rfl
  | succ d ih =>
    intro i acc k h ha hk
    have hlt : i < r.length := by omega
    obtain ⟨q, rfl⟩ : ∃ q, k = q + 1 := ⟨k - 1, by omega⟩
    rw [runs_Flat.l0, if_pos (by omega), if_pos (by omega), if_pos (by omega), rd_at _ _ hlt, wrap_id (x := 4096 - (acc.length : Int)) (by omega) (by omega), List.drop_eq_getElem_cons hlt, flatT]
    by_cases h1 : r[i].f1 < 1
    · rw [if_pos h1, if_pos h1]
    · rw [if_neg h1, if_neg h1]
      by_cases h2 : r[i].f1 > 4096 - (acc.length : Int)
      · rw [if_pos h2, if_pos h2]
      · rw [if_neg h2, if_neg h2]
        obtain ⟨j, rfl⟩ : ∃ j, q = r[i].f1.toNat + j + 1 := ⟨q - r[i].f1.toNat - 1, by omega⟩
        rw [flat1_reps _ _ _ _ _ j r[i].f1 r[i].f1.toNat _ 0 (by omega) (by omega) (by omega) (by omega), runs_Flat.l1, if_neg (by omega), wrap_id (x := (i : Int) + 1) (by omega) (by omega), show (i : Int) + 1 = ((i + 1 : Nat) : Int) from by omega,
          ih (i + 1) _ _ (by omega) (by rw [List.length_append, List.length_replicate]; omega) (by omega)]
theorem flat2_reps (x0 : List SR) (i : Nat) (hi : i < x0.length) (k : Nat) : ∀ (m : Nat) (acc : List Int) (j : Int), 0 ≤ j → j + m = x0[i].f1 → x0[i].f1 ≤ 1000000 → acc.length + m ≤ 1000000 →
    winnowerref03_Flat.l1 (m + k + 1) x0 acc (i : Int) j = winnowerref03_Flat.l1 (k + 1) x0 (acc ++ List.replicate m x0[i].f0) (i : Int) x0[i].f1 := by
  intro m
  induction m with
  | zero => intro acc j _ h _ _; rw [List.replicate_zero, List.append_nil, Nat.zero_add, show j = x0[i].f1 from by omega]
  | succ m ih =>
    intro acc j h0 h hN ha
    rw [show m + 1 + k + 1 = (m + k + 1) + 1 from by omega, winnowerref03_Flat.l1, if_pos (by omega), if_pos (by omega), rd_at _ _ hi, if_pos (by omega), if_pos (by omega), wrap_id (x := j + 1) (by omega) (by omega), ih (acc ++ [x0[i].f0]) (j + 1) (by omega) (by omega) hN (by rw [List.length_append, List.length_singleton]; omega),
      List.append_assoc, List.replicate_succ]
    rfl
theorem flat2_go {r : List SR} (hr : r.length ≤ 1000000) : ∀ (d i : Nat) (acc : List Int) (k : Nat), i + d = r.length → acc.length ≤ 4096 → 5000 * d + 1 ≤ k → winnowerref03_Flat.l0 k r acc (i : Int) = some (flatT (r.drop i) acc) := by
  intro d
  induction d with
  | zero =>
    intro i acc k h _ hk
    obtain ⟨q, rfl⟩ : ∃ q, k = q + 1 := ⟨k - 1, by omega⟩
    rw [winnowerref03_Flat.l0, if_neg (by omega), List.drop_eq_nil_of_le (by omega)]; rfl
  | succ d ih =>
    intro i acc k h ha hk
    have hlt : i < r.length := by omega
    obtain ⟨q, rfl⟩ : ∃ q, k = q + 1 + 1 := ⟨k - 2, by omega⟩
    rw [winnowerref03_Flat.l0, if_pos (by omega), if_pos (by omega), rd_at _ _ hlt, List.drop_eq_getElem_cons hlt, flatT]
    by_cases h1 : r[i].f1 < 1
    · rw [if_pos h1, if_pos h1]
    · rw [if_neg h1, if_neg h1]
      by_cases h3 : r[i].f1 > 4096
      · rw [if_pos h3, if_pos (by omega), winnowerref03_Flat.j1, if_pos rfl]
      · rw [if_neg h3, wrap_id (x := (acc.length : Int) + r[i].f1) (by omega) (by omega), winnowerref03_Flat.j1]
        by_cases h2 : r[i].f1 > 4096 - (acc.length : Int)
        · rw [if_pos h2, decide_eq_true (by omega), if_pos rfl]
        · rw [if_neg h2, decide_eq_false (by omega), if_neg Bool.false_ne_true]
          obtain ⟨j, rfl⟩ : ∃ j, q = r[i].f1.toNat + j + 1 := ⟨q - r[i].f1.toNat - 1, by omega⟩
          rw [flat2_reps r i hlt j r[i].f1.toNat _ 0 (by omega) (by omega) (by omega) (by omega), winnowerref03_Flat.l1, if_pos (by omega), if_pos (by omega), rd_at _ _ hlt, if_neg (by omega), wrap_id (x := (i : Int) + 1) (by omega) (by omega), show (i : Int) + 1 = ((i + 1 : Nat) : Int) from by omega,
            ih (i + 1) _ _ (by omega) (by rw [List.length_append, List.length_replicate]; omega) (by omega)]
theorem deltas_more {l : List Int} (hl : l.length ≤ 1000000) {k : Nat} (hk : l.length + 1 ≤ k) : runs_Deltas.f k l = some (dels 0 l) := by
  obtain ⟨j, rfl⟩ := Nat.exists_eq_add_of_le hk
  have h : ∀ j, runs_Deltas.f (l.length + 1 + j) l = some (dels 0 l) := by
    intro j
    induction j with
    | zero => exact deltas_tell hl
    | succ j ih => exact runs_Deltas.mono l (l.length + 1 + j) _ ih
  exact h j
theorem refsums_go {l : List Int} (hl : l.length ≤ 1000000) (j : Nat) : ∀ k i : Nat, i + k = l.length → ∀ (b : List Int) (last : Int), b.length = i → winnowerref03_Sums.l0 (k + j + 1) l b last (i : Int) = some (b ++ sums last (l.drop i)) := by
  intro k
  induction k with
  | zero =>
    intro i h b last _
    rw [winnowerref03_Sums.l0, if_neg (by omega), List.drop_eq_nil_of_le (by omega)]
    simp [sums]
  | succ k ih =>
    intro i h b last hb
    have hlt : i < l.length := by omega
    have hrd : rd l (i : Int) = l[i] := by rw [rd, Int.toNat_natCast, List.getD_eq_getElem?_getD, List.getElem?_eq_getElem hlt]; rfl
    rw [show k + 1 + j + 1 = (k + j + 1) + 1 from by omega, winnowerref03_Sums.l0, if_pos (by omega), if_pos (by omega), if_pos (by omega), hrd, wrap_id (x := (i : Int) + 1) (by omega) (by omega), show (i : Int) + 1 = ((i + 1 : Nat) : Int) from by omega,
      ih (i + 1) (by omega) _ _ (by rw [List.length_append, hb]; rfl), List.drop_eq_getElem_cons hlt, sums, List.append_assoc]
    rfl
theorem ints (l : List Int) : winnowerref01_Ints.f l l = some true := by unfold winnowerref01_Ints.f; rw [decide_eq_true rfl]
theorem tells (l : List Int) (r : List SR) (hi : ∀ x ∈ l, i64 x) : ∃ k, winnowerlaw03_RunsTells.f k l r = some true := by
  refine ⟨5000 * 601 + 2, ?_⟩
  unfold winnowerlaw03_RunsTells.f
  rw [awake03 (by omega), Option.bind_some, if_pos rfl]
  by_cases hl : (l.length : Int) > 600
  · rw [if_pos hl, winnowerlaw03_RunsTells.j0, if_pos rfl]
  · rw [if_neg hl, winnowerlaw03_RunsTells.j0]
    by_cases hl' : (r.length : Int) > 600
    · rw [decide_eq_true hl', if_pos rfl]
    · have hrl := rl_len l
      have e1 : runs_Flat.f (5000 * 601 + 1) r = some (flatT r []) := flat1_go (r := r) (by omega) r.length 0 [] _ (by omega) (by simp) (by omega)
      have e2 : winnowerref03_Flat.f (5000 * 601 + 1) r = some (flatT r []) := flat2_go (r := r) (by omega) r.length 0 [] _ (by omega) (by simp) (by omega)
      have e3 : winnowerref03_Sums.f (5000 * 601 + 1) l = some (sums 0 l) := by
        obtain ⟨j, hj⟩ : ∃ j, 5000 * 601 + 1 = l.length + j + 1 := ⟨5000 * 601 - l.length, by omega⟩
        rw [hj]; exact refsums_go (l := l) (by omega) j l.length 0 (by omega) [] 0 rfl
      rw [decide_eq_false hl', if_neg Bool.false_ne_true, runs_Runs.f, if_pos (by omega), Option.bind_some, runsOf_eq, refruns_tell (by omega) (by omega), Option.bind_some, same_tell (by rw [mkR_length]; omega) (by rw [mkR_length]; omega), Option.bind_some, e1, Option.bind_some, e2, Option.bind_some, ints, Option.bind_some,
        deltas_more (by omega) (by omega), Option.bind_some, refdels_tell (by omega) hi (by omega), Option.bind_some, ints, Option.bind_some, sums_tell (by omega) (by omega), Option.bind_some, e3, Option.bind_some, ints, Option.bind_some]
      simp
theorem RunsTells.call (A0 : Option Addr) (c0 : Nat) (l0 : List Int) (A1 : Option Addr) (c1 : Nat) (l1 : List SR) (w : World) (hr0 : Kd.C (Kd.int .i64) w A0 l0.length l0) (hc0 : l0.length ≤ c0) (hr1 : Kd.C k35 w A1 l1.length l1) (hc1 : l1.length ≤ c1) (hi : ∀ x ∈ l0, i64 x) :
    Calls Try.prog 7 #[.slice A0 l0.length c0, .slice A1 l1.length c1] w fun e w' => e = .returned (.bool true) ∧ Below w.heap.size w w' := by
  obtain ⟨k, hk⟩ := tells l0 l1 hi
  exact winnowerlaw03_RunsTells.calls k A0 c0 l0 A1 c1 l1 true w hr0 hc0 hr1 hc1 hk

end Go.Proofs.Ytnlfhjhdnompaaa.T
