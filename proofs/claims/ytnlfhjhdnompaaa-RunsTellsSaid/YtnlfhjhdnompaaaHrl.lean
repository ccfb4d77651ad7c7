/- The runs of a list by its head, and what is known of them. -/
import Derived.Laws.BitsLemmas
import Derived.Test.YtnlfhjhdnompaaaWWords
import Derived.Test.YtnlfhjhdnompaaaWMore
import Derived.Test.YtnlfhjhdnompaaaHnum
import Derived.Test.YtnlfhjhdnompaaaHruns
namespace Go.Proofs.Ytnlfhjhdnompaaa.Hrl
open Go.RowKit Go.Proofs.YtnlfhjhdnompaaaW.PrintWords Go.Proofs.YtnlfhjhdnompaaaW.PrintLast Go.Proofs.YtnlfhjhdnompaaaW.PrintMore Go.Proofs.Ytnlfhjhdnompaaa.Hnum Go.Proofs.Ytnlfhjhdnompaaa.Hruns
set_option linter.unusedVariables false
set_option linter.unusedSimpArgs false
/-- One more number ahead. -/
def ahead (x : Int) : List (Int × Int) → List (Int × Int)
  | [] => [(x, 1)]
  | r :: t => if x = r.1 then (r.1, r.2 + 1) :: t else (x, 1) :: r :: t
/-- One more number behind. -/
def behind (x : Int) : List (Int × Int) → List (Int × Int)
  | [] => [(x, 1)]
  | [r] => if r.1 = x then [(r.1, r.2 + 1)] else [r, (x, 1)]
  | r :: s :: t => r :: behind x (s :: t)
def rl : List Int → List (Int × Int)
  | [] => []
  | x :: t => ahead x (rl t)
theorem ahead_cons (x : Int) (r : Int × Int) (t : List (Int × Int)) : ahead x (r :: t) = if x = r.1 then (r.1, r.2 + 1) :: t else (x, 1) :: r :: t := rfl
theorem ahead_ne (x : Int) (r : List (Int × Int)) : ahead x r ≠ [] := by
  cases r with
  | nil => simp [ahead]
  | cons a t => rw [ahead_cons]; split <;> simp
theorem rl_ne {l : List Int} (h : l ≠ []) : rl l ≠ [] := by
  cases l with
  | nil => exact absurd rfl h
  | cons x t => exact ahead_ne _ _
theorem ahead_behind (x y : Int) (r : List (Int × Int)) (h : r ≠ []) : ahead x (behind y r) = behind y (ahead x r) := by
  match r, h with
  | [a], _ =>
    obtain ⟨v, n⟩ := a
    simp only [behind, ahead]
    by_cases e1 : v = y <;> by_cases e2 : x = v <;> simp [e1, e2, ahead, behind] <;> (try split) <;> simp_all [ahead, behind]
  | a :: b :: t, _ =>
    simp only [behind, ahead]
    by_cases e2 : x = a.1 <;> simp [e2, ahead, behind]
theorem rl_snoc (l : List Int) (x : Int) : rl (l ++ [x]) = behind x (rl l) := by
  induction l with
  | nil => rfl
  | cons y t ih =>
    rw [List.cons_append, rl, ih, rl]
    cases t with
    | nil =>
      simp only [rl, ahead, behind]
      by_cases e : y = x <;> simp [e, ahead, behind]
    | cons z t => exact ahead_behind _ _ _ (rl_ne (by simp))
theorem behind_last (x : Int) (p : List (Int × Int)) (r : Int × Int) : behind x (p ++ [r]) = if r.1 = x then p ++ [(r.1, r.2 + 1)] else p ++ [r, (x, 1)] := by
  induction p with
  | nil => simp [behind]
  | cons a t ih =>
    cases t with
    | nil => simp only [List.cons_append, List.nil_append, behind]; split <;> simp_all
    | cons b t =>
      simp only [List.cons_append] at ih ⊢
      rw [behind, ih]
      split <;> simp
theorem behind_nil (x : Int) : behind x [] = [(x, 1)] := rfl
/-- The runs of so many numbers. -/
theorem rl_take_succ {l : List Int} {i : Nat} (h : i < l.length) : rl (l.take (i + 1)) = behind (l.getD i 0) (rl (l.take i)) := by
  rw [List.take_succ_eq_append_getElem h, rl_snoc, List.getD_eq_getElem?_getD, List.getElem?_eq_getElem h]; rfl
theorem stR_iff {l : List Int} : ∀ {i : Nat}, i < l.length → 0 < i → ((stR l i).2 < i ↔ l.getD i 0 = l.getD (i - 1) 0) := by
  intro i hi h0
  obtain ⟨j, rfl⟩ : ∃ j, i = j + 1 := ⟨i - 1, by omega⟩
  rw [Nat.add_sub_cancel]
  by_cases h : j + 1 < l.length ∧ l.getD (j + 1) 0 = l.getD j 0
  · rw [stR_more h]
    have := (stR_le l j).1
    exact ⟨fun _ => h.2, fun _ => by omega⟩
  · rw [stR_end h]
    exact ⟨fun hh => absurd hh (Nat.lt_irrefl _), fun hh => absurd ⟨hi, hh⟩ h⟩
/-- What the walk holds after so many numbers. -/
def cur (l : List Int) (i : Nat) : List (Int × Int) := (stR l i).1 ++ if (stR l i).2 < i then [(l.getD (i - 1) 0, ((i - (stR l i).2 : Nat) : Int))] else []
theorem cur_succ {l : List Int} {i : Nat} (hi : i < l.length) : cur l (i + 1) = (stR l i).1 ++ [(l.getD i 0, ((i + 1 - (stR l i).2 : Nat) : Int))] := by
  have hle := (stR_le l i).1
  unfold cur
  by_cases h : i + 1 < l.length ∧ l.getD (i + 1) 0 = l.getD i 0
  · rw [stR_more h, if_pos (by omega), Nat.add_sub_cancel]
  · rw [stR_end h]; simp
theorem stR_last {l : List Int} : ∀ {i : Nat}, i < l.length → (stR l i).2 = i → 0 < i → ∃ p, (stR l i).1 = p ++ [(l.getD (i - 1) 0, ((i - (stR l (i - 1)).2 : Nat) : Int))] := by
  intro i hi he h0
  obtain ⟨j, rfl⟩ : ∃ j, i = j + 1 := ⟨i - 1, by omega⟩
  by_cases h : j + 1 < l.length ∧ l.getD (j + 1) 0 = l.getD j 0
  · rw [stR_more h] at he
    have := (stR_le l j).1
    omega
  · rw [stR_end h, Nat.add_sub_cancel]
    exact ⟨_, rfl⟩
theorem cur_eq {l : List Int} : ∀ i, i ≤ l.length → cur l i = rl (l.take i) := by
  intro i
  induction i with
  | zero => intro _; rfl
  | succ i ih =>
    intro hi
    have hlt : i < l.length := by omega
    rw [rl_take_succ hlt, ← ih (by omega), cur_succ hlt]
    have hle := (stR_le l i).1
    unfold cur
    rcases Nat.eq_zero_or_pos i with rfl | hpos
    · simp [stR, behind]
    · by_cases hs : (stR l i).2 < i
      · have e := (stR_iff hlt hpos).1 hs
        rw [if_pos hs, behind_last, if_pos e.symm]
        simp only
        rw [show ((i + 1 - (stR l i).2 : Nat) : Int) = ((i - (stR l i).2 : Nat) : Int) + 1 from by omega, e]
      · have hs' : (stR l i).2 = i := by omega
        have e : ¬ l.getD i 0 = l.getD (i - 1) 0 := fun hh => hs ((stR_iff hlt hpos).2 hh)
        obtain ⟨p, hp⟩ := stR_last hlt hs' hpos
        rw [if_neg hs, List.append_nil, hp, behind_last, if_neg (fun hh => e hh.symm), hs']
        simp
theorem stR_end_len {l : List Int} (h : 0 < l.length) : (stR l l.length).2 = l.length := by
  obtain ⟨j, hj⟩ : ∃ j, l.length = j + 1 := ⟨l.length - 1, by omega⟩
  have hn : ¬ (j + 1 < l.length ∧ l.getD (j + 1) 0 = l.getD j 0) := by omega
  rw [hj, stR_end hn]
theorem runsOf_eq (l : List Int) : runsOf l = rl l := by
  have h := cur_eq (l := l) l.length (Nat.le_refl _)
  rw [List.take_length] at h
  rw [← h]
  unfold cur runsOf
  rcases Nat.eq_zero_or_pos l.length with h0 | h0
  · obtain rfl : l = [] := List.length_eq_zero_iff.1 h0
    rfl
  · rw [stR_end_len h0, if_neg (Nat.lt_irrefl _), List.append_nil]
/-! ### what is known of them -/
/-- Runs laid flat. -/
def flat (r : List (Int × Int)) : List Int := r.flatMap fun a => List.replicate a.2.toNat a.1
def okR (r : List (Int × Int)) : Prop := ∀ a ∈ r, 1 ≤ a.2
theorem okR_ahead {x : Int} {r : List (Int × Int)} (h : okR r) : okR (ahead x r) := by
  cases r with
  | nil => intro a ha; simp [ahead] at ha; subst ha; exact Int.le_refl _
  | cons b t =>
    intro a ha
    have hb := h b (List.mem_cons_self ..)
    rw [ahead_cons] at ha
    by_cases e : x = b.1
    · rw [if_pos e] at ha
      rcases List.mem_cons.1 ha with rfl | ha
      · show 1 ≤ b.2 + 1; omega
      · exact h a (List.mem_cons_of_mem _ ha)
    · rw [if_neg e] at ha
      rcases List.mem_cons.1 ha with rfl | ha
      · exact Int.le_refl _
      · exact h a ha
theorem rl_ok (l : List Int) : okR (rl l) := by
  induction l with
  | nil => intro a ha; cases ha
  | cons x t ih => exact okR_ahead ih
theorem flat_ahead {x : Int} {r : List (Int × Int)} (h : okR r) : flat (ahead x r) = x :: flat r := by
  cases r with
  | nil => rfl
  | cons b t =>
    have hb := h b (List.mem_cons_self ..)
    rw [ahead_cons]
    by_cases e : x = b.1
    · rw [if_pos e]
      simp only [flat, List.flatMap_cons]
      rw [show (b.2 + 1).toNat = b.2.toNat + 1 from by omega, List.replicate_succ, List.cons_append, e]
    · rw [if_neg e]
      simp only [flat, List.flatMap_cons]
      rfl
theorem flat_rl (l : List Int) : flat (rl l) = l := by
  induction l with
  | nil => rfl
  | cons x t ih => rw [rl, flat_ahead (rl_ok t), ih]
theorem flat_cons (a : Int × Int) (r : List (Int × Int)) : flat (a :: r) = List.replicate a.2.toNat a.1 ++ flat r := by simp [flat]
theorem flat_append (a b : List (Int × Int)) : flat (a ++ b) = flat a ++ flat b := by simp [flat]
theorem rl_mem {l : List Int} {a : Int × Int} (h : a ∈ rl l) : a.1 ∈ l := by
  have h1 := rl_ok l a h
  rw [← flat_rl l]
  unfold flat
  rw [List.mem_flatMap]
  exact ⟨a, h, List.mem_replicate.2 ⟨by omega, rfl⟩⟩
/-- Neighbours differ. -/
def apart : List (Int × Int) → Prop
  | a :: b :: t => a.1 ≠ b.1 ∧ apart (b :: t)
  | _ => True
theorem apart_ahead {x : Int} {r : List (Int × Int)} (h : apart r) : apart (ahead x r) := by
  cases r with
  | nil => trivial
  | cons b t =>
    rw [ahead_cons]
    by_cases e : x = b.1
    · rw [if_pos e]
      cases t with
      | nil => trivial
      | cons c t => exact ⟨h.1, h.2⟩
    · rw [if_neg e]
      exact ⟨e, h⟩
theorem rl_apart (l : List Int) : apart (rl l) := by
  induction l with
  | nil => trivial
  | cons x t ih => exact apart_ahead ih
theorem apart_get {r : List (Int × Int)} (h : apart r) : ∀ i, i + 1 < r.length → (r.getD (i + 1) (0, 0)).1 ≠ (r.getD i (0, 0)).1 := by
  induction r with
  | nil => intro i hi; simp at hi
  | cons a t ih =>
    intro i hi
    cases t with
    | nil => simp at hi
    | cons b t =>
      cases i with
      | zero => exact fun e => h.1 e.symm
      | succ i => exact ih h.2 i (by simpa using hi)
theorem rl_len (l : List Int) : (rl l).length ≤ l.length := by
  induction l with
  | nil => exact Nat.le_refl _
  | cons x t ih =>
    rw [rl]
    have : (ahead x (rl t)).length ≤ (rl t).length + 1 := by
      cases rl t with
      | nil => simp [ahead]
      | cons b r => rw [ahead_cons]; split <;> simp
    simp only [List.length_cons]; omega
theorem flat_len {r : List (Int × Int)} (h : okR r) : ((flat r).length : Int) = (r.map (·.2)).sum := by
  induction r with
  | nil => rfl
  | cons a t ih =>
    have ha := h a (List.mem_cons_self ..)
    rw [flat_cons, List.length_append, List.length_replicate, List.map_cons, List.sum_cons, ← ih (fun b hb => h b (List.mem_cons_of_mem _ hb))]
    omega
theorem flat_one {r : List (Int × Int)} {a : Int × Int} (h : okR r) (ha : a ∈ r) : a.2 ≤ ((flat r).length : Int) := by
  induction r with
  | nil => cases ha
  | cons b t ih =>
    rw [flat_cons, List.length_append, List.length_replicate]
    have hb := h b (List.mem_cons_self ..)
    rcases List.mem_cons.1 ha with rfl | ha
    · omega
    · have := ih (fun c hc => h c (List.mem_cons_of_mem _ hc)) ha; omega
/-- The runs of two lists, one behind the other. -/
def join : List (Int × Int) → List (Int × Int) → List (Int × Int)
  | [], b => b
  | [a], [] => [a]
  | [a], b :: t => if a.1 = b.1 then (a.1, a.2 + b.2) :: t else a :: b :: t
  | a :: c :: t, b => a :: join (c :: t) b
theorem ahead_join {x : Int} {r s : List (Int × Int)} (hr : r ≠ []) : ahead x (join r s) = join (ahead x r) s := by
  match r, s, hr with
  | [a], [], _ =>
    obtain ⟨v, n⟩ := a
    simp only [join, ahead]
    by_cases e : x = v <;> simp [e, join]
  | [a], b :: t, _ =>
    obtain ⟨v, n⟩ := a
    obtain ⟨u, m⟩ := b
    simp only [join, ahead]
    by_cases e : x = v <;> by_cases e2 : v = u <;> simp [e, e2, join, ahead]
    all_goals (first | omega | (split <;> simp_all [join, ahead] <;> omega) | simp_all [join, ahead] | skip)
  | a :: c :: t, b, _ =>
    simp only [join, ahead]
    by_cases e : x = a.1 <;> simp [e, join]
theorem rl_append (l m : List Int) : rl (l ++ m) = join (rl l) (rl m) := by
  induction l with
  | nil => simp [rl, join]
  | cons x t ih =>
    rw [List.cons_append, rl, ih, rl]
    cases t with
    | nil =>
      simp only [rl, ahead, join]
      cases h : rl m with
      | nil => simp [ahead, join]
      | cons b r =>
        simp only [ahead, join]
        by_cases e : x = b.1
        · rw [if_pos e, if_pos e, e, Int.add_comm]
        · rw [if_neg e, if_neg e]
    | cons y t => exact ahead_join (rl_ne (by simp))
theorem join_last {p : List (Int × Int)} {a b : Int × Int} {t : List (Int × Int)} : join (p ++ [a]) (b :: t) = if a.1 = b.1 then p ++ (a.1, a.2 + b.2) :: t else p ++ a :: b :: t := by
  induction p with
  | nil => simp [join]
  | cons c p ih =>
    cases p with
    | nil => simp only [List.cons_append, List.nil_append, join]; split <;> rfl
    | cons d p =>
      simp only [List.cons_append] at ih ⊢
      rw [join, ih]
      split <;> rfl
theorem join_nil (r : List (Int × Int)) : join r [] = r := by
  match r with
  | [] => rfl
  | [a] => rfl
  | a :: b :: t => rw [join, join_nil (b :: t)]
theorem rl_same (v : Int) (n : Nat) (h : 1 ≤ n) : rl (List.replicate n v) = [(v, (n : Int))] := by
  induction n with
  | zero => omega
  | succ n ih =>
    rw [List.replicate_succ, rl]
    rcases Nat.eq_zero_or_pos n with rfl | h0
    · rfl
    · rw [ih h0]
      simp only [ahead, if_pos]
      congr 2
end Go.Proofs.Ytnlfhjhdnompaaa.Hrl
