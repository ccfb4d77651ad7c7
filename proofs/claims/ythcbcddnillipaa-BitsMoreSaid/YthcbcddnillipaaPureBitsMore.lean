/- Statement BitsMore: more numbers behind change nothing of those ahead, wherever they stand; no condition. -/
import Derived.Test.YthcbcddnillipaaQx28
import Derived.Test.YthcbcddnillipaaHbitstell
import Derived.Test.YthcbcddnillipaaHawake02
namespace Go.Proofs.Ythcbcddnillipaa.Pure
open Go.RowKit Go.Proofs.Ythcbcddnillipaa.Q Go.Proofs.Ythcbcddnillipaa.Hnum Go.Proofs.Ythcbcddnillipaa.Hbits Go.Proofs.Ythcbcddnillipaa.Hbitnum Go.Proofs.YthcbcddnillipaaW.PrintWords Go.Proofs.YthcbcddnillipaaW.PrintLast
theorem small64 {n : Nat} (h : n ≤ 600) : i64 (n : Int) := ⟨by omega, by omega⟩
theorem wrap600 {n : Nat} (h : n ≤ 600) : wrap64 (n : Int) = (n : Int) := wrap_id (by omega) (by omega)
theorem behind {l m : List Int} {w : Nat} (hw : w ≤ 62) (hl : l.length ≤ 300) (hm : m.length ≤ 300) (hg : ∀ x ∈ l ++ m, good w x) (x8 : List Int) (h8 : x8.length ≤ bsize ((l ++ m).length * w)) : ∀ (d i k : Nat), i + d = m.length → d < k →
    winnowerlaw02_BitsMore.l1 k l m (w : Int) x8 (bytesN (bsize ((l ++ m).length * w)) (catN w (l ++ m))) (i : Int) = some true := by
  have hb := bytesN_bytes (bsize ((l ++ m).length * w)) (catN w (l ++ m))
  have hlen2 : (l ++ m).length ≤ 600 := by rw [List.length_append]; omega
  have h4096 : (l ++ m).length ≤ 4096 := Nat.le_trans hlen2 (by decide)
  have hl4096 : l.length ≤ 4096 := Nat.le_trans hl (by decide)
  have hlw : (l ++ m).length * w ≤ 600 * 62 := Nat.mul_le_mul hlen2 hw
  have hlen : Aside0 ((bytesN (bsize ((l ++ m).length * w)) (catN w (l ++ m))).length ≤ 1000000) := ⟨by rw [bytesN_length]; unfold bsize; omega⟩
  have h3 : i64 (w : Int) := ⟨by omega, by omega⟩
  intro d
  induction d with
  | zero =>
    intro i k hi hk
    obtain ⟨q, rfl⟩ : ∃ m, k = m + 1 := ⟨k - 1, by omega⟩
    rw [winnowerlaw02_BitsMore.l1, if_neg (show ¬ ((i : Int) < (m.length : Int)) from by omega), bytesN_length, decide_eq_true (show (x8.length : Int) ≤ ((bsize ((l ++ m).length * w) : Nat) : Int) from by omega)]
  | succ d ih =>
    intro i k hi hk
    obtain ⟨q, rfl⟩ : ∃ m, k = m + 1 := ⟨k - 1, by omega⟩
    have hlt : i < m.length := by omega
    have hlt2 : l.length + i < (l ++ m).length := by rw [List.length_append]; omega
    have h1 : (i : Int) < (m.length : Int) := by omega
    have h6 : i + 1 + d = m.length := by omega
    have h7 : d < q := by omega
    have hq : l.length + i ≤ 600 := by omega
    have h2 : i64 ((l.length + i : Nat) : Int) := small64 hq
    have h4 : wrap64 ((i : Int) + 1) = ((i + 1 : Nat) : Int) := by rw [wrap_id (by omega) (by omega)]; omega
    have e : wrap64 ((l.length : Int) + (i : Int)) = ((l.length + i : Nat) : Int) := by rw [← Int.natCast_add]; exact wrap600 hq
    have h5 : (l ++ m)[l.length + i] = m[i] := by rw [List.getElem_append_right (Nat.le_add_right _ _)]; simp
    rw [winnowerlaw02_BitsMore.l1, if_pos h1, e, At_tell hb hlen.out h2 h3, Option.bind_some, if_pos (Int.natCast_nonneg _), at_packed hw h4096 hg hlt2, rd_get hlt, h5, if_pos rfl, h4]
    exact ih (i + 1) q h6 h7
theorem ahead {l m : List Int} {w : Nat} (hw : w ≤ 62) (hl : l.length ≤ 300) (hm : m.length ≤ 300) (hg : ∀ x ∈ l ++ m, good w x) : ∀ (d i k : Nat), i + d = l.length → d + m.length + 1 < k →
    winnowerlaw02_BitsMore.l0 k l m (w : Int) (bytesN (bsize (l.length * w)) (catN w l)) (bytesN (bsize ((l ++ m).length * w)) (catN w (l ++ m))) (i : Int) = some true := by
  have hb := bytesN_bytes (bsize ((l ++ m).length * w)) (catN w (l ++ m))
  have hb1 := bytesN_bytes (bsize (l.length * w)) (catN w l)
  have hlen2 : (l ++ m).length ≤ 600 := by rw [List.length_append]; omega
  have h4096 : (l ++ m).length ≤ 4096 := Nat.le_trans hlen2 (by decide)
  have hl4096 : l.length ≤ 4096 := Nat.le_trans hl (by decide)
  have hlw : (l ++ m).length * w ≤ 600 * 62 := Nat.mul_le_mul hlen2 hw
  have hlw1 : l.length * w ≤ (l ++ m).length * w := Nat.mul_le_mul_right _ (by rw [List.length_append]; omega)
  have hlen : Aside0 ((bytesN (bsize ((l ++ m).length * w)) (catN w (l ++ m))).length ≤ 1000000) := ⟨by rw [bytesN_length]; unfold bsize; omega⟩
  have hlen1 : Aside0 ((bytesN (bsize (l.length * w)) (catN w l)).length ≤ 1000000) := ⟨by rw [bytesN_length]; unfold bsize; omega⟩
  have hg1 : ∀ x ∈ l, good w x := fun x hx => hg x (List.mem_append_left _ hx)
  have h3 : i64 (w : Int) := ⟨by omega, by omega⟩
  intro d
  induction d with
  | zero =>
    intro i k hi hk
    obtain ⟨q, rfl⟩ : ∃ m, k = m + 1 := ⟨k - 1, by omega⟩
    rw [winnowerlaw02_BitsMore.l0, if_neg (show ¬ ((i : Int) < (l.length : Int)) from by omega)]
    exact behind hw hl hm hg _ (by rw [bytesN_length]; unfold bsize; omega) m.length 0 q (by omega) (by omega)
  | succ d ih =>
    intro i k hi hk
    obtain ⟨q, rfl⟩ : ∃ m, k = m + 1 := ⟨k - 1, by omega⟩
    have hlt : i < l.length := by omega
    have hlt2 : i < (l ++ m).length := by rw [List.length_append]; omega
    have h1 : (i : Int) < (l.length : Int) := by omega
    have h2 : i64 (i : Int) := ⟨by omega, by omega⟩
    have h4 : wrap64 ((i : Int) + 1) = ((i + 1 : Nat) : Int) := by rw [wrap_id (by omega) (by omega)]; omega
    have h5 : (l ++ m)[i] = l[i] := List.getElem_append_left hlt
    have h6 : i + 1 + d = l.length := by omega
    have h7 : d + m.length + 1 < q := by omega
    rw [winnowerlaw02_BitsMore.l0, if_pos h1, At_tell hb1 hlen1.out h2 h3, Option.bind_some, if_pos (Int.natCast_nonneg _), at_packed hw hl4096 hg1 hlt, rd_get hlt, if_pos rfl, At_tell hb hlen.out h2 h3, Option.bind_some, at_packed hw h4096 hg hlt2, h5, if_pos rfl, h4]
    exact ih (i + 1) q h6 h7
theorem BitsMore : winnowerlaw02_BitsMore.Pure := by
  intro l m a _ _ hl _ _ hm _
  have hl : ∀ x ∈ l, i64 x := fun x hx => i64_of_wf (hl x hx)
  have hm : ∀ x ∈ m, i64 x := fun x hx => i64_of_wf (hm x hx)
  have hlm : ∀ x ∈ l ++ m, i64 x := fun x hx => (List.mem_append.1 hx).elim (hl x) (hm x)
  refine ⟨l.length + m.length + 5, ?_⟩
  unfold winnowerlaw02_BitsMore.f
  rw [awake02, Option.bind_some, if_pos rfl]
  by_cases h3 : (l.length : Int) > 300
  · rw [if_pos h3, winnowerlaw02_BitsMore.j0, if_pos rfl]
  · rw [if_neg h3, winnowerlaw02_BitsMore.j0]
    by_cases h4 : (m.length : Int) > 300
    · rw [if_pos (decide_eq_true h4)]
    · have hlen2 : (l ++ m).length ≤ 600 := by rw [List.length_append]; omega
      rw [if_neg (by simpa using h4), Pack_tell hl, Option.bind_some, if_pos (show ([] : List Int).length + l.length < 17592186044416 from by simp only [List.length_nil]; omega), List.nil_append, Option.bind_some, if_pos (show l.length + m.length < 17592186044416 from by omega), Pack_tell hlm, Option.bind_some]
      by_cases he : (packT l a).2 = 0
      · rw [if_pos he]
        by_cases hf : (packT (l ++ m) a).2 = 0
        · obtain ⟨w, rfl, hw, _, hg, e⟩ := packT_ok hf
          have hg1 : ∀ x ∈ l, good w x := fun x hx => hg x (List.mem_append_left _ hx)
          rw [e, packT_good hw (by omega) hg1]
          refine (congrArg (winnowerlaw02_BitsMore.j1 (l.length + m.length + 4) l m (w : Int) (bytesN (bsize (l.length * w)) (catN w l)) 0 (bytesN (bsize ((l ++ m).length * w)) (catN w (l ++ m))) 0) (show ((0 : Int) != 0) = false from rfl)).trans ?_
          rw [winnowerlaw02_BitsMore.j1, if_neg (by decide)]
          exact ahead hw (by omega) (by omega) hg l.length 0 _ (by omega) (by omega)
        · rw [winnowerlaw02_BitsMore.j1, if_pos (by simpa using hf), if_pos he]
      · rw [if_neg he, winnowerlaw02_BitsMore.j1, if_pos rfl, if_neg he]
        have hf : (packT (l ++ m) a).2 ≠ 0 := by
          intro hf
          obtain ⟨w, rfl, hw, _, hg, _⟩ := packT_ok hf
          exact he (by rw [packT_good hw (by omega) (fun x hx => hg x (List.mem_append_left _ hx))])
        exact congrArg some (by simpa using hf)
end Go.Proofs.Ythcbcddnillipaa.Pure
