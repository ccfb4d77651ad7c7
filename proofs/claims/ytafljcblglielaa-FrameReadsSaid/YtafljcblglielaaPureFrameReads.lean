/- Statement FrameReads: of any bytes the payloads are read that the document says, and as many bytes gone through; no condition. -/
import Derived.Test.YtafljcblglielaaQx15
import Derived.Test.YtafljcblglielaaHcrc
import Derived.Test.YtafljcblglielaaHframe
import Derived.Test.YtafljcblglielaaHframe04
import Derived.Test.YtafljcblglielaaHrefframe
import Derived.Test.YtafljcblglielaaHrefgetl
namespace Go.Proofs.Ytafljcblglielaa.Pure
set_option linter.unusedVariables false
set_option linter.unusedSimpArgs false
open Go.RowKit Go.Proofs.Ytafljcblglielaa.Q Go.Proofs.Ytafljcblglielaa.Hnum Go.Proofs.Ytafljcblglielaa.Hcrc Go.Proofs.Ytafljcblglielaa.Hframe Go.Proofs.YtafljcblglielaaW.PrintWords Go.Proofs.YtafljcblglielaaW.PrintLast
theorem same (a b : List Int) : winnowerref01_Same.f a b = some (decide (a = b)) := rfl
theorem frame_is {b : List Int} {n k : Nat} (hk : digs n = b.take k) (hl : k + n + 4 ≤ b.length) : sealB ((b.drop k).take n) = b.take (k + n + 4) ↔ tailB (sumB ((b.drop k).take n)) = (b.drop (k + n)).take 4 := by
  have hp : ((b.drop k).take n).length = n := by rw [List.length_take, List.length_drop]; omega
  have e : b.take (k + n + 4) = b.take k ++ ((b.drop k).take n ++ (b.drop (k + n)).take 4) := by
    rw [Nat.add_assoc, List.take_add, List.take_add, List.drop_drop]
  unfold sealB
  rw [hp, hk, e]
  constructor
  · intro h
    exact List.append_cancel_left (List.append_cancel_left h)
  · intro h
    rw [h]
theorem reads_len : ∀ (f : Nat) {b : List Int}, Bytes b → (reads f b).1.length ≤ b.length
  | 0, b, _ => Nat.zero_le _
  | f + 1, b, hb => by
    cases h : one b with
    | none => rw [reads_none h]; exact Nat.zero_le _
    | some q =>
      obtain ⟨p, s⟩ := q
      obtain ⟨h1, h2, _, _⟩ := one_size hb h
      have := reads_len f (hb.drop s)
      rw [List.length_drop] at this
      rw [reads_some h, List.length_cons]
      omega
theorem lists_go (x : List (List Int)) (hx : x.length ≤ 1000000) (q : Nat) : ∀ (d i : Nat), i + d = x.length → winnowerref04_Lists.l0 (d + q + 1) x x (i : Int) = some true := by
  intro d
  induction d with
  | zero => intro i h; rw [winnowerref04_Lists.l0, if_neg (by omega)]
  | succ d ih =>
    intro i h
    rw [show d + 1 + q + 1 = (d + q + 1) + 1 from by omega, winnowerref04_Lists.l0, if_pos (by omega), if_pos (by omega), if_pos (by omega), same, decide_eq_true rfl, Option.bind_some, if_pos rfl, wrap_id (x := (i : Int) + 1) (by omega) (by omega), show (i : Int) + 1 = ((i + 1 : Nat) : Int) from by omega, ih (i + 1) (by omega)]
theorem lists_tell {x : List (List Int)} (hx : x.length ≤ 1000000) {k : Nat} (hk : x.length + 1 ≤ k) : winnowerref04_Lists.f k x x = some true := by
  obtain ⟨j, rfl⟩ := Nat.exists_eq_add_of_le hk
  rw [winnowerref04_Lists.f, if_pos rfl, show x.length + 1 + j = x.length + j + 1 from by omega]
  exact lists_go x hx j x.length 0 (by omega)
theorem refread_go {l : List Int} (hb : Bytes l) (hl : l.length ≤ 10000) : ∀ (f used : Nat) (acc : List (List Int)) (k : Nat), used ≤ l.length → l.length < f + used → acc.length ≤ used → 2 * f + 2000000 ≤ k →
    winnowerref04_Read.l0 k l acc (used : Int) = some (acc ++ (reads f (l.drop used)).1, ((used + (reads f (l.drop used)).2 : Nat) : Int)) := by
  intro f
  induction f with
  | zero => intro used acc k h1 h2; omega
  | succ f ih =>
    intro used acc k h1 h2 h3 hk
    obtain ⟨k, rfl⟩ : ∃ q, k = q + 1 + 1 := ⟨k - 2, by omega⟩
    obtain ⟨b, hbe⟩ : ∃ b, b = l.drop used := ⟨_, rfl⟩
    have hbb : Bytes b := by rw [hbe]; exact hb.drop used
    have hbl : b.length + used = l.length := by rw [hbe, List.length_drop]; omega
    have stop : one b = none → winnowerref04_Read.j1 (k + 1) l acc (used : Int) (getl b).1 (getl b).2.1 true = some (acc ++ (reads (f + 1) b).1, ((used + (reads (f + 1) b).2 : Nat) : Int)) := by
      intro h
      rw [winnowerref04_Read.j1, if_pos rfl, reads_none h, List.append_nil, Nat.add_zero]
    rw [winnowerref04_Read.l0, if_pos (by omega), if_pos (by omega), Int.toNat_natCast, ← hbe, winnowerref01_GetLen.tells hbb, Option.bind_some]
    by_cases he : (getl b).2.2 = 0
    · rw [if_pos he]
      by_cases hn : (getl b).1 > 65536
      · rw [if_pos hn]
        exact stop (one_bad (.inr (.inl hn)))
      · rw [if_neg hn]
        obtain ⟨n, j, hg, hn2, hj1, hj2, hd⟩ := getl_ok hbb he
        rw [hg] at hn
        simp only at hn
        have e1 : Unit → wrap64 ((used : Int) + (j : Int)) = ((used + j : Nat) : Int) := fun _ => add_wrap rfl (by omega)
        have e2 : Unit → wrap64 (((used + j : Nat) : Int) + (n : Int)) = ((used + j + n : Nat) : Int) := fun _ => add_wrap rfl (by omega)
        have e3 : Unit → wrap64 (((used + j + n : Nat) : Int) + 4) = ((used + j + n + 4 : Nat) : Int) := fun _ => add_wrap4 rfl (by omega)
        by_cases hr : used + j + n + 4 > l.length
        · have hs := stop (one_bad (.inr (.inr (by rw [hg]; simp only; omega))))
          rw [hg] at hs ⊢
          simp only at hs ⊢
          rw [e1 (), e2 (), e3 (), decide_eq_true (by omega)]
          exact hs
        · clear stop
          obtain ⟨n', j', hg', _, _, hl', hd', ho⟩ := one_cases hbb he (by rw [hg]; simp only; omega) (by rw [hg]; simp only; omega)
          rw [hg] at hg'
          simp only [Prod.mk.injEq, and_true] at hg'
          obtain ⟨rfl, rfl⟩ : n = n' ∧ j = j' := ⟨by omega, by omega⟩
          rw [hg]
          simp only
          have p1 : (l.take (used + j + n)).drop (used + j) = (b.drop j).take n := by rw [hbe, List.drop_drop, List.take_drop]
          have p2 : (l.take (used + j + n + 4)).drop used = b.take (j + n + 4) := by rw [hbe, List.take_drop]; congr 2; omega
          have pb : Bytes ((b.drop j).take n) := (hbb.drop j).take n
          have pl : ((b.drop j).take n).length = n := by rw [List.length_take, List.length_drop]; omega
          rw [e1 (), e2 (), e3 (), decide_eq_false (by omega), winnowerref04_Read.j1, if_neg Bool.false_ne_true, e1 (), e2 (), e3 (), if_pos (by omega), if_pos (by omega), if_pos (by omega), Int.toNat_natCast, Int.toNat_natCast, p1, refseal_tell pb (by omega) (by omega), Option.bind_some, if_pos (by omega), if_pos (by omega), if_pos (by omega), Int.toNat_natCast, Int.toNat_natCast, p2, same, Option.bind_some]
          by_cases ht : tailB (sumB ((b.drop j).take n)) = (b.drop (j + n)).take 4
          · rw [if_pos ht] at ho
            have hdrop : b.drop (j + n + 4) = l.drop (used + j + n + 4) := by rw [hbe, List.drop_drop]; congr 1; omega
            rw [decide_eq_true ((frame_is hd hl').2 ht), if_pos rfl, if_pos (by rw [List.length_nil]; omega), if_pos (by omega), List.nil_append,
              ih (used + j + n + 4) _ k (by omega) (by omega) (by rw [List.length_append, List.length_singleton]; omega) (by omega), reads_some ho, hdrop, List.append_assoc]
            congr 2
            omega
          · rw [if_neg ht] at ho
            rw [decide_eq_false (fun h => ht ((frame_is hd hl').1 h)), if_neg Bool.false_ne_true, reads_none ho, List.append_nil, Nat.add_zero]
    · rw [if_neg he]
      exact stop (one_bad (.inl he))
theorem FrameReads : winnowerlaw04_FrameReads.Pure := by
  intro l _ _ hb
  have hb := Bytes.of_wf hb
  refine ⟨2100000 + 2, ?_⟩
  unfold winnowerlaw04_FrameReads.f
  rw [awake04 (by omega), Option.bind_some, if_pos rfl, winnowerlaw04_FrameReads.j0]
  by_cases hl : (l.length : Int) > 2000
  · rw [decide_eq_true hl, if_pos rfl]
  · have hr := refread_go hb (by omega) (l.length + 1) 0 [] (2100000 + 1) (by omega) (by omega) (by simp) (by omega)
    have hlen := reads_len (l.length + 1) hb
    rw [List.drop_zero, List.nil_append, Nat.zero_add] at hr
    rw [decide_eq_false hl, if_neg Bool.false_ne_true, read_tell hb (by omega), Option.bind_some, winnowerref04_Read.f, show (0 : Int) = ((0 : Nat) : Int) from rfl, hr, Option.bind_some]
    simp only
    rw [lists_tell (by omega) (by omega), Option.bind_some, if_pos rfl]
    simp
end Go.Proofs.Ytafljcblglielaa.Pure
