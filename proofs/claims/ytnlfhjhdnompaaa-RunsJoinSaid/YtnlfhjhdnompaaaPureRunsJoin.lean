/- Statement RunsJoin: the runs of two lists, one behind the other, are those of both, the last one of the first and the first one of the second being one if they are alike; no condition. -/
import Derived.Test.YtnlfhjhdnompaaaQx27
import Derived.Test.YtnlfhjhdnompaaaHrl
import Derived.Test.YtnlfhjhdnompaaaHruns03
namespace Go.Proofs.Ytnlfhjhdnompaaa.Pure
set_option linter.unusedVariables false
set_option linter.unusedSimpArgs false
open Go.RowKit Go.Proofs.Ytnlfhjhdnompaaa.Q Go.Proofs.Ytnlfhjhdnompaaa.Hnum Go.Proofs.Ytnlfhjhdnompaaa.Hruns Go.Proofs.Ytnlfhjhdnompaaa.Hrl Go.Proofs.YtnlfhjhdnompaaaW.PrintWords Go.Proofs.YtnlfhjhdnompaaaW.PrintLast
theorem mkR_len (r : List (Int × Int)) : (mkR r).length = r.length := by simp [mkR]
theorem mkR_append (a b : List (Int × Int)) : mkR (a ++ b) = mkR a ++ mkR b := by simp [mkR]
theorem same_go (x : List S35) (hx : x.length ≤ 1000000) (q : Nat) : ∀ (d i : Nat), i + d = x.length → winnowerref03_Same.l0 (d + q + 1) x x (i : Int) = some true := by
  intro d
  induction d with
  | zero => intro i h; rw [winnowerref03_Same.l0, if_neg (by omega)]
  | succ d ih =>
    intro i h
    rw [show d + 1 + q + 1 = (d + q + 1) + 1 from by omega, winnowerref03_Same.l0, if_pos (by omega), if_pos (by omega), if_pos (by omega), if_neg (by simp), wrap_id (x := (i : Int) + 1) (by omega) (by omega), show (i : Int) + 1 = ((i + 1 : Nat) : Int) from by omega, ih (i + 1) (by omega)]
theorem same_tell {x y : List S35} (h : x = y) (hx : x.length ≤ 1000000) {k : Nat} (hk : x.length + 1 ≤ k) : winnowerref03_Same.f k x y = some true := by
  subst h
  obtain ⟨j, rfl⟩ := Nat.exists_eq_add_of_le hk
  rw [winnowerref03_Same.f, if_pos rfl, show x.length + 1 + j = x.length + j + 1 from by omega]
  exact same_go x hx j x.length 0 (by omega)
theorem join_false {a b : List (Int × Int)} {k : Nat} (ha : a.length ≤ 300) (hb : b.length ≤ 300) (hk : 601 ≤ k) (h : join a b = a ++ b) : winnowerlaw03_RunsJoin.j1 (k + 1) (mkR a) (mkR b) (mkR (join a b)) false = some true := by
  rw [winnowerlaw03_RunsJoin.j1, if_neg Bool.false_ne_true, if_pos (by rw [List.length_nil, mkR_len]; omega), Option.bind_some, List.nil_append, if_pos (by rw [mkR_len, mkR_len]; omega), ← mkR_append, h,
    same_tell rfl (by rw [mkR_len, List.length_append]; omega) (by rw [mkR_len, List.length_append]; omega), Option.bind_some]
theorem RunsJoin : winnowerlaw03_RunsJoin.Pure := by
  intro l m _ _ hw _ _ hw'
  have hi : ∀ x ∈ l, i64 x := fun x hx => i64_of_wf (hw x hx)
  have hi' : ∀ x ∈ m, i64 x := fun x hx => i64_of_wf (hw' x hx)
  refine ⟨1000 + 2, ?_⟩
  unfold winnowerlaw03_RunsJoin.f
  rw [awake03 (by omega), Option.bind_some, if_pos rfl]
  by_cases hl : (l.length : Int) > 300
  · rw [if_pos hl, winnowerlaw03_RunsJoin.j0, if_pos rfl]
  · rw [if_neg hl, winnowerlaw03_RunsJoin.j0]
    by_cases hl' : (m.length : Int) > 300
    · rw [decide_eq_true hl', if_pos rfl]
    · have ha := rl_len l
      have hb := rl_len m
      rw [decide_eq_false hl', if_neg Bool.false_ne_true, runs_Runs.f, if_pos (by omega), Option.bind_some, runs_Runs.f, if_pos (by omega), Option.bind_some, if_pos (by rw [List.length_nil]; omega), Option.bind_some, List.nil_append, if_pos (by omega),
        runs_Runs.f, if_pos (by rw [List.length_append]; omega), Option.bind_some, runsOf_eq, runsOf_eq, runsOf_eq, rl_append, mkR_len, mkR_len]
      have hoa := rl_ok l
      have hob := rl_ok m
      have hua : ∀ a ∈ rl l, a.2 ≤ 300 := fun a h => by have := flat_one hoa h; rw [flat_rl] at this; omega
      have hub : ∀ a ∈ rl m, a.2 ≤ 300 := fun a h => by have := flat_one hob h; rw [flat_rl] at this; omega
      generalize rl l = a at *
      generalize rl m = b at *
      by_cases h0 : a = []
      · subst h0
        rw [if_neg (by simp)]
        exact join_false (by omega) (by omega) (by omega) rfl
      · cases b with
        | nil =>
          rw [if_pos (by have := List.length_pos_iff.2 h0; omega), if_neg (by simp)]
          exact join_false (by omega) (by omega) (by omega) (by rw [join_nil, List.append_nil])
        | cons y t =>
          obtain ⟨p, x, rfl⟩ : ∃ p x, a = p ++ [x] := ⟨a.dropLast, a.getLast h0, (List.dropLast_concat_getLast h0).symm⟩
          obtain ⟨xv, xn⟩ := x
          obtain ⟨yv, yn⟩ := y
          have h1 := hoa (xv, xn) (by simp)
          have h2 := hob (yv, yn) (by simp)
          have h3 := hua (xv, xn) (by simp)
          have h4 := hub (yv, yn) (by simp)
          simp only at h1 h2 h3 h4
          have e1 : wrap64 (((p ++ [(xv, xn)]).length : Int) - 1) = (p.length : Int) := by rw [List.length_append, List.length_singleton, wrap_id (by rw [List.length_append] at ha; omega) (by rw [List.length_append] at ha; omega)]; omega
          have e2 : rd_T35 (mkR (p ++ [(xv, xn)])) (p.length : Int) = ⟨xv, xn⟩ := by
            rw [rd_T35, Int.toNat_natCast, mkR_append, List.getD_eq_getElem?_getD, List.getElem?_append_right (by rw [mkR_len]; exact Nat.le_refl _), mkR_len, Nat.sub_self]; rfl
          have e3 : rd_T35 (mkR ((yv, yn) :: t)) 0 = ⟨yv, yn⟩ := rfl
          have hpl : (p ++ [(xv, xn)]).length = p.length + 1 := by simp
          rw [if_pos (by omega), if_pos (by rw [List.length_cons]; omega), e1, if_pos (by omega), if_pos (by omega), if_pos (by rw [List.length_cons]; omega), e2, e3]
          simp only
          by_cases hv : xv = yv
          · subst hv
            rw [beq_self_eq_true, winnowerlaw03_RunsJoin.j1, if_pos rfl, if_pos (by rw [List.length_nil, mkR_len]; omega), Option.bind_some, List.nil_append, mkR_len, mkR_len, e1, if_pos (by omega), if_pos (by omega), if_pos (by rw [List.length_cons]; omega), e2, e3, Option.bind_some, if_pos (by rw [List.length_cons]; omega), Option.bind_some]
            simp only
            have e4 : (mkR (p ++ [(xv, xn)])).set ((p.length : Int)).toNat ⟨xv, wrap64 (xn + yn)⟩ = mkR (p ++ [(xv, xn + yn)]) := by
              rw [wrap_id (by omega) (by omega), Int.toNat_natCast, mkR_append, List.set_append_right _ _ (by rw [mkR_len]; exact Nat.le_refl _), mkR_len, Nat.sub_self, mkR_append]; rfl
            have e5 : (mkR ((xv, yn) :: t)).drop 1 = mkR t := rfl
            rw [List.length_cons] at hb
            rw [e4, e5, ← mkR_append, if_pos (by rw [mkR_len, mkR_len, List.length_append, List.length_singleton]; omega), join_last, if_pos rfl, List.append_assoc, List.singleton_append,
              same_tell rfl (by rw [mkR_len, List.length_append, List.length_cons]; omega) (by rw [mkR_len, List.length_append, List.length_cons]; omega), Option.bind_some]
          · rw [show (xv == yv) = false from beq_eq_false_iff_ne.2 hv]
            exact join_false (by omega) (by omega) (by omega) (by rw [join_last, if_neg hv, List.append_assoc]; rfl)
end Go.Proofs.Ytnlfhjhdnompaaa.Pure
