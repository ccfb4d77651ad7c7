/- Statement BitsBack: what was packed is unpacked, and each of it is at its place; no condition. -/
import Derived.Test.YthcbcddnillipaaSx2
import Derived.Test.YthcbcddnillipaaHbitstellS
import Derived.Test.YthcbcddnillipaaHawake02S
namespace Go.Proofs.Ythcbcddnillipaa.Pure
open Go.RowKit Go.Proofs.Ythcbcddnillipaa.S Go.Proofs.Ythcbcddnillipaa.Hnum Go.Proofs.Ythcbcddnillipaa.Hbits Go.Proofs.Ythcbcddnillipaa.Hbitnum Go.Proofs.YthcbcddnillipaaW.PrintWords Go.Proofs.YthcbcddnillipaaW.PrintLast
theorem ints (l : List Int) : winnowerref01_Ints.f l l = some true := by unfold winnowerref01_Ints.f; rw [decide_eq_true rfl]
theorem ats {l : List Int} {w : Nat} (hw : w ≤ 62) (hl : l.length ≤ 600) (hg : ∀ x ∈ l, good w x) : ∀ (d i k : Nat), i + d = l.length → d < k →
    winnowerlaw02_BitsBack.l0 k l (w : Int) (bytesN (bsize (l.length * w)) (catN w l)) (i : Int) = some true := by
  have hb := bytesN_bytes (bsize (l.length * w)) (catN w l)
  have hlw : l.length * w ≤ 600 * 62 := Nat.mul_le_mul hl hw
  have hlen : (bytesN (bsize (l.length * w)) (catN w l)).length ≤ 10000 := by rw [bytesN_length]; unfold bsize; omega
  intro d
  induction d with
  | zero =>
    intro i k hi hk
    obtain ⟨q, rfl⟩ : ∃ m, k = m + 1 := ⟨k - 1, by omega⟩
    have hw64 : i64 (w : Int) := ⟨by omega, by omega⟩
    have e : wrap64 (wrap64 (8 * ((bytesN (bsize (l.length * w)) (catN w l)).length : Int)) + 1) = ((8 * (bytesN (bsize (l.length * w)) (catN w l)).length + 1 : Nat) : Int) := by
      rw [wrap_id (x := 8 * ((bytesN (bsize (l.length * w)) (catN w l)).length : Int)) (by omega) (by omega), wrap_id (by omega) (by omega)]
      omega
    rw [winnowerlaw02_BitsBack.l0, if_neg (show ¬ ((i : Int) < (l.length : Int)) from by omega), e, At_tell hb (by omega) ⟨by omega, by omega⟩ hw64, Option.bind_some, at_behind hw]
    rfl
  | succ d ih =>
    intro i k hi hk
    obtain ⟨q, rfl⟩ : ∃ m, k = m + 1 := ⟨k - 1, by omega⟩
    have hlt : i < l.length := by omega
    have h1 : (i : Int) < (l.length : Int) := by omega
    have h2 : i64 (i : Int) := ⟨by omega, by omega⟩
    have h3 : i64 (w : Int) := ⟨by omega, by omega⟩
    have h4 : wrap64 ((i : Int) + 1) = ((i + 1 : Nat) : Int) := by rw [wrap_id (by omega) (by omega)]; omega
    rw [winnowerlaw02_BitsBack.l0, if_pos h1, At_tell hb (by omega) h2 h3, Option.bind_some, if_pos (Int.natCast_nonneg _), at_packed hw (by omega) hg hlt, rd_get hlt, if_pos rfl, h4]
    exact ih (i + 1) q (by omega) (by omega)
theorem BitsBack : winnowerlaw02_BitsBack.Pure := by
  intro l a _ _ hl ha
  have hl : ∀ x ∈ l, i64 x := fun x hx => i64_of_wf (hl x hx)
  refine ⟨l.length + 3, ?_⟩
  unfold winnowerlaw02_BitsBack.f
  rw [awake02, Option.bind_some, if_pos rfl, winnowerlaw02_BitsBack.j0]
  by_cases h6 : (l.length : Int) > 600
  · rw [if_pos (decide_eq_true h6)]
  · rw [if_neg (by simpa using h6), Pack_tell hl, Option.bind_some]
    by_cases he : (packT l a).2 = 0
    · obtain ⟨w, rfl, hw, h4, hg, e⟩ := packT_ok he
      have hlw : l.length * w ≤ 600 * 62 := Nat.mul_le_mul (by omega) hw
      have hs : (((bytesN (bsize (l.length * w)) (catN w l)).length : Int) != wrap64 (Int.tdiv (wrap64 ((wrap64 ((l.length : Int) * (w : Int))) + 7)) 8)) = false := by
        rw [bytesN_length, ← Int.natCast_mul]
        generalize l.length * w = q at hlw ⊢
        rw [wrap_id (x := (q : Int)) (by omega) (by omega), wrap_id (x := (q : Int) + 7) (by omega) (by omega), Int.tdiv_eq_ediv_of_nonneg (by omega), wrap_id (by omega) (by omega)]
        rw [bne_eq_false_iff_eq]
        unfold bsize; omega
      have hlen : (bytesN (bsize (l.length * w)) (catN w l)).length ≤ 1000000 := by rw [bytesN_length]; unfold bsize; omega
      rw [if_pos he, e, Unpack_tell (bytesN_bytes _ _) hlen, Option.bind_some, unpack_packed hw h4 hg, ints, Option.bind_some, if_pos rfl, if_pos rfl]
      have hs2 := congrArg (winnowerlaw02_BitsBack.j1 (l.length + 2) l (w : Int) (bytesN (bsize (l.length * w)) (catN w l))) hs
      refine hs2.trans ?_
      rw [winnowerlaw02_BitsBack.j1, if_neg (by decide)]
      exact ats hw (by omega) hg l.length 0 _ (by omega) (by omega)
    · rw [if_neg he, packT_bad he (by omega)]
      rfl
end Go.Proofs.Ythcbcddnillipaa.Pure
