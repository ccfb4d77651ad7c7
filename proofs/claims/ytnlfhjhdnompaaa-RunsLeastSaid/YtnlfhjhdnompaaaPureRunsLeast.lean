/- Statement RunsLeast: no block is longer than the plain one, a run of one number has few bytes, and so have numbers that rise by steps of one; no condition. -/
import Derived.Test.YtnlfhjhdnompaaaQx20
import Derived.Test.YtnlfhjhdnompaaaHrl
import Derived.Test.YtnlfhjhdnompaaaHrefput
import Derived.Test.YtnlfhjhdnompaaaHruns03
namespace Go.Proofs.Ytnlfhjhdnompaaa.Pure
set_option linter.unusedVariables false
set_option linter.unusedSimpArgs false
open Go.RowKit Go.Proofs.Ytnlfhjhdnompaaa.Q Go.Proofs.Ytnlfhjhdnompaaa.Hnum Go.Proofs.Ytnlfhjhdnompaaa.Hruns Go.Proofs.Ytnlfhjhdnompaaa.Hrl Go.Proofs.YtnlfhjhdnompaaaW.PrintWords Go.Proofs.YtnlfhjhdnompaaaW.PrintLast
/-- Numbers that rise by one. -/
def rise (v : Int) : Nat → Nat → List Int
  | _, 0 => []
  | i, m + 1 => wrap64 (v + (i : Int)) :: rise v (i + 1) m
theorem rise_len (v : Int) : ∀ m i, (rise v i m).length = m
  | 0, _ => rfl
  | m + 1, i => by rw [rise, List.length_cons, rise_len v m]
theorem rise_i64 (v : Int) : ∀ m i, ∀ x ∈ rise v i m, i64 x
  | 0, _ => fun x h => by cases h
  | m + 1, i => fun x h => by
    rcases List.mem_cons.1 h with rfl | h
    · exact wrap64_i64 _
    · exact rise_i64 v m (i + 1) x h
theorem rise_dels (v : Int) : ∀ (m i : Nat), dels (wrap64 (v + (i : Int))) (rise v (i + 1) m) = List.replicate m 1
  | 0, _ => rfl
  | m + 1, i => by
    have e : wrap64 (wrap64 (v + ((i + 1 : Nat) : Int)) - wrap64 (v + (i : Int))) = 1 := by unfold wrap64; omega
    rw [rise, dels, e, rise_dels v m (i + 1), List.replicate_succ]
theorem ones_len (m : Nat) : (numsB (List.replicate m 1)).length = m := by
  induction m with
  | zero => rfl
  | succ m ih =>
    rw [List.replicate_succ, numsB_cons, List.length_append, ih, show fold 1 = 2 from by decide, digs_last (by decide), List.length_singleton]
    omega
theorem rise_best {v : Int} (hv : i64 v) {n : Nat} (h1 : 1 ≤ n) (h2 : n ≤ 4096) : (bestN (rise v 0 n) 3).length ≤ 13 + n := by
  have hb := best_le (rise v 0 n) 2 (by omega)
  have d := digs_short (n := n) (by omega)
  rw [encK_len, rise_len] at hb
  obtain ⟨m, rfl⟩ : ∃ m, n = m + 1 := ⟨n - 1, by omega⟩
  have e : bodyK 2 (rise v 0 (m + 1)) = digs (fold (wrap64 (wrap64 (v + ((0 : Nat) : Int)) - 0))) ++ numsB (List.replicate m 1) := by
    rw [← rise_dels v m 0, ← numsB_cons]; rfl
  rw [e, List.length_append, ones_len] at hb
  have := digs_le_ten (fold_lt (wrap64_i64 (wrap64 (v + ((0 : Nat) : Int)) - 0)))
  omega
theorem same_best {v : Int} (hv : i64 v) {n : Nat} (h1 : 1 ≤ n) (h2 : n ≤ 4096) : (bestN (List.replicate n v) 3).length ≤ 15 := by
  have hb := best_le (List.replicate n v) 1 (by omega)
  have d := digs_short (n := n) (by omega)
  rw [encK_len, List.length_replicate] at hb
  have e : bodyK 1 (List.replicate n v) = digs (fold v) ++ digs n := by
    rw [show bodyK 1 (List.replicate n v) = bytesR (runsOf (List.replicate n v)) from rfl, runsOf_eq, rl_same v n h1, bytesR_cons]
    simp [bytesR]
  rw [e, List.length_append] at hb
  have := digs_le_ten (fold_lt hv)
  omega
theorem plain_best {l : List Int} (h : l.length ≤ 600) : (bestN l 3).length ≤ 3 + (numsB l).length := by
  have hb := best_le l 0 (by omega)
  have d := digs_short (n := l.length) (by omega)
  rw [encK_len, show bodyK 0 l = numsB l from rfl] at hb
  omega
theorem least_more {l b : List Int} {v p : Int} {n : Nat} (hv : i64 v) (h1 : 1 ≤ n) (h2 : n ≤ 4096) (hb : (b.length : Int) ≤ p) (q : Nat) : ∀ (d i : Nat) (x y : List Int), i + d = n → x ++ List.replicate d v = List.replicate n v → y ++ rise v i d = rise v 0 n → x.length = i → y.length = i →
    winnowerlaw03_RunsLeast.l1 (d + q + 1) v (n : Int) b 0 p x y (i : Int) = some true := by
  intro d
  induction d with
  | zero =>
    intro i x y h hx hy _ _
    rw [List.replicate_zero, List.append_nil] at hx
    rw [rise, List.append_nil] at hy
    subst hx hy
    have e1 := same_best hv h1 h2
    have e2 := rise_best hv h1 h2
    rw [winnowerlaw03_RunsLeast.l1, if_neg (by omega), encode_tell (by rw [List.length_replicate]; exact h2) (fun z hz => by rw [(List.mem_replicate.1 hz).2]; exact hv), Option.bind_some, encode_tell (by rw [rise_len]; exact h2) (rise_i64 v n 0), Option.bind_some]
    simp only
    rw [if_pos trivial, if_pos hb, if_pos trivial, if_pos (by omega), if_pos trivial, wrap_id (x := 13 + (n : Int)) (by omega) (by omega), decide_eq_true (by omega)]
  | succ d ih =>
    intro i x y h hx hy hxl hyl
    rw [show d + 1 + q + 1 = (d + q + 1) + 1 from by omega, winnowerlaw03_RunsLeast.l1, if_pos (by omega), if_pos (by omega), if_pos (by omega), wrap_id (x := (i : Int) + 1) (by omega) (by omega), show (i : Int) + 1 = ((i + 1 : Nat) : Int) from by omega,
      ih (i + 1) _ _ (by omega) (by rw [List.append_assoc, List.singleton_append, ← List.replicate_succ]; exact hx) (by rw [List.append_assoc, List.singleton_append]; exact hy) (by rw [List.length_append, hxl]; rfl) (by rw [List.length_append, hyl]; rfl)]
theorem least_go {l : List Int} {v : Int} {n : Nat} (hl : l.length ≤ 600) (hi : ∀ x ∈ l, i64 x) (hv : i64 v) (h1 : 1 ≤ n) (h2 : n ≤ 4096) (q : Nat) (hq : 4200 ≤ q) : ∀ (d i : Nat), i + d = l.length →
    winnowerlaw03_RunsLeast.l0 (d + q + 1) l v (n : Int) (bestN l 3) 0 ((3 + (numsB (l.take i)).length : Nat) : Int) (i : Int) = some true := by
  intro d
  induction d with
  | zero =>
    intro i h
    rw [winnowerlaw03_RunsLeast.l0, if_neg (by omega), List.take_of_length_le (by omega)]
    obtain ⟨j, rfl⟩ := Nat.exists_eq_add_of_le (show n + 1 ≤ q by omega)
    have hb := plain_best hl
    rw [show 0 + (n + 1 + j) = n + j + 1 from by omega]
    exact least_more (l := l) (i := 0) hv h1 h2 (by omega) j n [] [] (by omega) rfl rfl rfl rfl
  | succ d ih =>
    intro i h
    have hlt : i < l.length := by omega
    have hrd : rd l (i : Int) = l[i] := by rw [rd, Int.toNat_natCast, List.getD_eq_getElem?_getD, List.getElem?_eq_getElem hlt]; rfl
    have hx := hi _ (List.getElem_mem hlt)
    have hd := digs_le_ten (fold_lt hx)
    have hs : numsB (l.take (i + 1)) = numsB (l.take i) ++ digs (fold l[i]) := by unfold numsB; rw [List.take_succ_eq_append_getElem hlt, List.flatMap_append, List.flatMap_cons, List.flatMap_nil, List.append_nil]
    have hn := numsB_len (l := l.take i) (fun z hz => hi z (List.mem_of_mem_take hz))
    rw [List.length_take] at hn
    have hh := ih (i + 1) (by omega)
    rw [hs, List.length_append] at hh
    rw [show d + 1 + q + 1 = (d + q + 1) + 1 from by omega, winnowerlaw03_RunsLeast.l0, if_pos (by omega), if_pos (by omega), hrd, winnowerref01_Put.tells hx, Option.bind_some, wrap_id (x := (i : Int) + 1) (by omega) (by omega), show (i : Int) + 1 = ((i + 1 : Nat) : Int) from by omega,
      wrap_id (by omega) (by omega), show ((3 + (numsB (l.take i)).length : Nat) : Int) + ((digs (fold l[i])).length : Int) = ((3 + ((numsB (l.take i)).length + (digs (fold l[i])).length) : Nat) : Int) from by omega]
    exact hh
theorem RunsLeast : winnowerlaw03_RunsLeast.Pure := by
  intro l v n _ _ hw hv hn
  have hi : ∀ x ∈ l, i64 x := fun x hx => i64_of_wf (hw x hx)
  have hv := i64_of_wf hv
  refine ⟨l.length + 4300 + 2, ?_⟩
  unfold winnowerlaw03_RunsLeast.f
  rw [awake03 (by omega), Option.bind_some, if_pos rfl]
  by_cases hl : (l.length : Int) > 600
  · rw [if_pos hl, winnowerlaw03_RunsLeast.j0, if_pos rfl]
  · rw [if_neg hl]
    by_cases h1 : n < 1
    · rw [if_pos h1, winnowerlaw03_RunsLeast.j0, if_pos rfl]
    · rw [if_neg h1, winnowerlaw03_RunsLeast.j0]
      by_cases h2 : n > 4096
      · rw [decide_eq_true h2, if_pos rfl]
      · obtain ⟨m, rfl⟩ : ∃ m : Nat, n = (m : Int) := ⟨n.toNat, by omega⟩
        rw [decide_eq_false h2, if_neg Bool.false_ne_true, encode_tell (by omega) hi, Option.bind_some]
        have h := least_go (l := l) (v := v) (n := m) (by omega) hi hv (by omega) (by omega) 4300 (by omega) l.length 0 (by omega)
        exact h
end Go.Proofs.Ytnlfhjhdnompaaa.Pure
