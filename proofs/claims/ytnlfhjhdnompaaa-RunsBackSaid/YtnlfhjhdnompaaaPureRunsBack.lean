/- Statement RunsBack: what was encoded is decoded, whatever stands behind, runs are flat again, and deltas summed; no condition. -/
import Derived.Test.YtnlfhjhdnompaaaQx30
import Derived.Test.YtnlfhjhdnompaaaHrl
import Derived.Test.YtnlfhjhdnompaaaHruns03
namespace Go.Proofs.Ytnlfhjhdnompaaa.Pure
set_option linter.unusedVariables false
set_option linter.unusedSimpArgs false
open Go.RowKit Go.Proofs.Ytnlfhjhdnompaaa.Q Go.Proofs.Ytnlfhjhdnompaaa.Hnum Go.Proofs.Ytnlfhjhdnompaaa.Hruns Go.Proofs.Ytnlfhjhdnompaaa.Hrl Go.Proofs.YtnlfhjhdnompaaaW.PrintWords Go.Proofs.YtnlfhjhdnompaaaW.PrintLast
theorem mkR_len (r : List (Int × Int)) : (mkR r).length = r.length := by simp [mkR]
theorem rd_mkR (r : List (Int × Int)) (i : Nat) (h : i < r.length) : rd_T35 (mkR r) (i : Int) = ⟨r[i].1, r[i].2⟩ := by
  rw [rd_T35, Int.toNat_natCast, mkR, List.getD_eq_getElem?_getD, List.getElem?_map, List.getElem?_eq_getElem h]; rfl
theorem deltas_more {l : List Int} (hl : l.length ≤ 1000000) {k : Nat} (hk : l.length + 1 ≤ k) : runs_Deltas.f k l = some (dels 0 l) := by
  obtain ⟨j, rfl⟩ := Nat.exists_eq_add_of_le hk
  have h : ∀ j, runs_Deltas.f (l.length + 1 + j) l = some (dels 0 l) := by
    intro j
    induction j with
    | zero => exact deltas_tell hl
    | succ j ih => exact runs_Deltas.mono l (l.length + 1 + j) _ ih
  exact h j
theorem flat_reps (x7 : List S35) (x8 x9 v n : Int) (k : Nat) (N : Int) : ∀ (m : Nat) (acc : List Int) (i : Int), 0 ≤ i → i + m = N → N ≤ 1000000 → acc.length + m ≤ 1000000 →
    runs_Flat.l1 (m + k + 1) acc x7 x8 x9 N i v n = runs_Flat.l1 (k + 1) (acc ++ List.replicate m v) x7 x8 x9 N N v n := by
  intro m
  induction m with
  | zero => intro acc i _ h _ _; rw [List.replicate_zero, List.append_nil, Nat.zero_add, show i = N from by omega]
  | succ m ih =>
    intro acc i h0 h hN ha
    rw [show m + 1 + k + 1 = (m + k + 1) + 1 from by omega, runs_Flat.l1, if_pos (by omega), if_pos (by omega), wrap_id (x := i + 1) (by omega) (by omega), ih (acc ++ [v]) (i + 1) (by omega) (by omega) hN (by rw [List.length_append, List.length_singleton]; omega),
      List.append_assoc, List.replicate_succ]
    rfl
theorem flat_go {r : List (Int × Int)} (hok : okR r) (hf : (flat r).length ≤ 4096) (hr : r.length ≤ 4096) (q : Nat) : ∀ (d i : Nat), i + d = r.length → runs_Flat.l0 (fuelR (r.drop i) + q + 1) (flat (r.take i)) (mkR r) (r.length : Int) (i : Int) = some (flat r, 0) := by
  intro d
  induction d with
  | zero =>
    intro i h
    rw [runs_Flat.l0, if_neg (by omega), List.take_of_length_le (by omega)]
  | succ d ih =>
    intro i h
    have hlt : i < r.length := by omega
    have hok' := hok _ (List.getElem_mem hlt)
    have e := congrArg List.length (congrArg flat (List.take_append_drop (i + 1) r))
    rw [flat_append, List.length_append, List.take_succ_eq_append_getElem hlt, flat_append, List.length_append, flat_cons, List.length_append, List.length_replicate] at e
    have hs : flat (r.take (i + 1)) = flat (r.take i) ++ List.replicate r[i].2.toNat r[i].1 := by rw [List.take_succ_eq_append_getElem hlt, flat_append, flat_cons]; simp [flat]
    have hq : fuelR (r.drop i) + q + 1 = (r[i].2.toNat + (fuelR (r.drop (i + 1)) + q + 1) + 1) + 1 := by rw [List.drop_eq_getElem_cons hlt]; simp only [fuelR, List.map_cons, List.sum_cons]; omega
    rw [hq, runs_Flat.l0, if_pos (by omega), if_pos (by omega), if_pos (by rw [mkR_len]; omega), rd_mkR _ _ hlt]
    simp only
    rw [if_neg (by omega), wrap_id (x := 4096 - ((flat (r.take i)).length : Int)) (by omega) (by omega), if_neg (by omega), flat_reps _ _ _ _ _ (fuelR (r.drop (i + 1)) + q + 1) r[i].2 r[i].2.toNat _ 0 (by omega) (by omega) (by omega) (by omega),
      runs_Flat.l1, if_neg (by omega), wrap_id (x := (i : Int) + 1) (by omega) (by omega), show (i : Int) + 1 = ((i + 1 : Nat) : Int) from by omega, ← hs, ih (i + 1) (by omega)]
theorem flat_tell {l : List Int} (hl : l.length ≤ 4096) {k : Nat} (hk : fuelR (rl l) + 1 ≤ k) : runs_Flat.f k (mkR (rl l)) = some (l, 0) := by
  obtain ⟨j, rfl⟩ := Nat.exists_eq_add_of_le hk
  have h := flat_go (r := rl l) (rl_ok l) (by rw [flat_rl]; exact hl) (Nat.le_trans (rl_len l) hl) j (rl l).length 0 (by omega)
  rw [flat_rl] at h
  rw [runs_Flat.f, show fuelR (rl l) + 1 + j = fuelR (rl l) + j + 1 from by omega, mkR_len]
  exact h
theorem ints (l : List Int) : winnowerref01_Ints.f l l = some true := by unfold winnowerref01_Ints.f; rw [decide_eq_true rfl]
theorem RunsBack : winnowerlaw03_RunsBack.Pure := by
  intro l more _ _ hw _ _ hw'
  have hi : ∀ x ∈ l, i64 x := fun x hx => i64_of_wf (hw x hx)
  have hm := Bytes.of_wf hw'
  refine ⟨fuelK l + 100 + 2, ?_⟩
  have hfk : fuelK l = l.length + 1 + (fuelR (rl l) + 1) := rfl
  unfold winnowerlaw03_RunsBack.f
  rw [awake03 (by omega), Option.bind_some, if_pos rfl]
  by_cases hl : (l.length : Int) > 600
  · rw [if_pos hl, winnowerlaw03_RunsBack.j0, if_pos rfl]
  · rw [if_neg hl, winnowerlaw03_RunsBack.j0]
    by_cases hl' : (more.length : Int) > 600
    · rw [decide_eq_true hl', if_pos rfl]
    · have hb := best_le l 0 (by omega)
      have d := digs_short (n := l.length) (by omega)
      have hn := numsB_len hi
      rw [encK_len, show bodyK 0 l = numsB l from rfl] at hb
      rw [decide_eq_false hl', if_neg Bool.false_ne_true, encode_tell (by omega) hi, Option.bind_some]
      simp only
      rw [if_pos (by rw [List.length_nil]; omega), Option.bind_some, List.nil_append, if_pos (by omega), decode_tell hm hi (by omega) (by omega) (by omega), Option.bind_some]
      simp only
      rw [ints, Option.bind_some, runs_Runs.f, if_pos (by omega), Option.bind_some, runsOf_eq, flat_tell (by omega) (by omega), Option.bind_some]
      simp only
      rw [ints, Option.bind_some, deltas_more (by omega) (by omega), Option.bind_some, sums_tell (by rw [dels_len]; omega) (by rw [dels_len]; omega), Option.bind_some, sums_dels l hi, ints, Option.bind_some,
        sums_tell (by omega) (by omega), Option.bind_some, deltas_more (by rw [sums_len]; omega) (by rw [sums_len]; omega), Option.bind_some, dels_sums l hi, ints, Option.bind_some]
      simp
end Go.Proofs.Ytnlfhjhdnompaaa.Pure
