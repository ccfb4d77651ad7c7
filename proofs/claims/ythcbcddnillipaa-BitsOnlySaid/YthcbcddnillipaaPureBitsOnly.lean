/- Statement BitsOnly: what is unpacked would be packed as the same bytes, and one byte less is too short, one more too long; no condition. -/
import Derived.Test.YthcbcddnillipaaQx26
import Derived.Test.YthcbcddnillipaaHbitstell
import Derived.Test.YthcbcddnillipaaHawake02
namespace Go.Proofs.Ythcbcddnillipaa.Pure
open Go.RowKit Go.Proofs.Ythcbcddnillipaa.Q Go.Proofs.Ythcbcddnillipaa.Hnum Go.Proofs.Ythcbcddnillipaa.Hbits Go.Proofs.Ythcbcddnillipaa.Hbitnum Go.Proofs.YthcbcddnillipaaW.PrintWords Go.Proofs.YthcbcddnillipaaW.PrintLast
theorem same (l : List Int) : winnowerref01_Same.f l l = some true := by unfold winnowerref01_Same.f; rw [decide_eq_true rfl]
theorem goods {b : List Int} {m w : Nat} (hb : Bytes b) (hl : b.length ≤ 600) (hm : m ≤ 4096) (hw : w ≤ 62) (hlen : b.length = bsize (m * w)) : ∀ (d i k : Nat), i + d = m → d < k →
    winnowerlaw02_BitsOnly.l0 k b (m : Int) (w : Int) (outs w m (numN b)) (i : Int) = some true := by
  have hol := outs_length w m (numN b)
  intro d
  induction d with
  | zero =>
    intro i k hi hk
    obtain ⟨q, rfl⟩ : ∃ m, k = m + 1 := ⟨k - 1, by omega⟩
    rw [winnowerlaw02_BitsOnly.l0, if_neg (show ¬ ((i : Int) < ((outs w m (numN b)).length : Int)) from by omega)]
    by_cases h0 : (b.length : Int) = 0
    · rw [if_pos h0]
    · have e : wrap64 ((b.length : Int) - 1) = ((b.length - 1 : Nat) : Int) := by rw [wrap_id (by omega) (by omega)]; omega
      rw [if_neg h0, e, if_pos (Int.natCast_nonneg _), if_pos (show ((b.length - 1 : Nat) : Int) ≤ (b.length : Int) from by omega), Int.toNat_natCast, Unpack_tell (hb.take _) (by rw [List.length_take]; omega), Option.bind_some]
      have hu : unpackT (b.take (b.length - 1)) (m : Int) (w : Int) = ([], 6) := by
        unfold unpackT unpackS
        rw [if_neg (show ¬ ((w : Int) < 0 ∨ 62 < (w : Int) ∨ (m : Int) < 0) from by omega), Int.toNat_natCast, Int.toNat_natCast, if_neg (show ¬ 4096 < m from by omega), if_pos (show (b.take (b.length - 1)).length < bsize (m * w) from by rw [List.length_take]; omega)]
      rw [hu]
      rfl
  | succ d ih =>
    intro i k hi hk
    obtain ⟨q, rfl⟩ : ∃ m, k = m + 1 := ⟨k - 1, by omega⟩
    have hlt : i < (outs w m (numN b)).length := by omega
    have hg := outs_good w m (numN b) _ (List.getElem_mem hlt)
    have hp : 2 ^ w ≤ 4611686018427387904 := Nat.pow_le_pow_right (n := 2) (by decide) hw
    have h64 : i64 (outs w m (numN b))[i] := ⟨by have := hg.1; omega, by have := hg.1; have := hg.2; omega⟩
    have hwd := (wide_le h64).2 hg.2
    have h1 : (i : Int) < ((outs w m (numN b)).length : Int) := by omega
    have h4 : wrap64 ((i : Int) + 1) = ((i + 1 : Nat) : Int) := by rw [wrap_id (by omega) (by omega)]; omega
    have h0 := hg.1
    have h5 : i + 1 + d = m := by omega
    have h6 : d < q := by omega
    rw [winnowerlaw02_BitsOnly.l0, if_pos h1, if_pos (Int.natCast_nonneg _), rd_get hlt, if_neg (show ¬ ((outs w m (numN b))[i] < 0) from by omega), bits_Width.tell h64.2, Option.bind_some, if_neg (show ¬ (wide (outs w m (numN b))[i] > (w : Int)) from by omega), h4]
    exact ih (i + 1) q h5 h6
theorem BitsOnly : winnowerlaw02_BitsOnly.Pure := by
  intro b n a _ _ hb _ _
  have hb := Bytes.of_wf hb
  refine ⟨4096 + 4, ?_⟩
  unfold winnowerlaw02_BitsOnly.f
  rw [awake02, Option.bind_some, if_pos rfl, winnowerlaw02_BitsOnly.j0]
  by_cases h6 : (b.length : Int) > 600
  · rw [if_pos (decide_eq_true h6)]
  · have hlen : b.length ≤ 1000000 := by omega
    rw [if_neg (by simpa using h6), Unpack_tell hb hlen, Option.bind_some]
    by_cases he : (unpackT b n a).2 = 0
    · obtain ⟨m, w, rfl, rfl, hm, hw, hsz, hN, e⟩ := unpackT_ok hb he
      have h64 : ∀ x ∈ outs w m (numN b), i64 x := fun x hx => by
        have hg := outs_good w m (numN b) x hx
        have hp : 2 ^ w ≤ 4611686018427387904 := Nat.pow_le_pow_right (n := 2) (by decide) hw
        have := hg.1; have := hg.2
        exact ⟨by omega, by omega⟩
      have hz : Bytes (b ++ [0]) := hb.append (Bytes.cons (by decide) (by decide) Bytes.nil)
      have hu : unpackT (b ++ [0]) (m : Int) (w : Int) = ([], 7) := by
        unfold unpackT unpackS
        rw [if_neg (show ¬ ((w : Int) < 0 ∨ 62 < (w : Int) ∨ (m : Int) < 0) from by omega), Int.toNat_natCast, Int.toNat_natCast, if_neg (show ¬ 4096 < m from by omega), List.length_append, List.length_singleton, if_neg (show ¬ (b.length + 1 < bsize (m * w)) from by omega),
          if_pos (show bsize (m * w) < b.length + 1 ∨ 2 ^ (m * w) ≤ numN (b ++ [0]) from .inl (by omega))]
      have hl600 : b.length ≤ 600 := by omega
      rw [if_pos he, e, Pack_tell h64, Option.bind_some, pack_outs hb hm hw hsz hN, same, Option.bind_some, if_pos (show ([] : List Int).length + b.length < 140737488355328 from by simp only [List.length_nil]; omega), List.nil_append, Option.bind_some, if_pos (show b.length < 140737488355328 from by omega),
        Unpack_tell hz (by rw [List.length_append, List.length_singleton]; omega), Option.bind_some, hu, if_pos rfl, if_pos rfl, if_pos rfl]
      have hs : (((outs w m (numN b)).length : Int) != (m : Int)) = false := by rw [outs_length, bne_self_eq_false]
      refine (congrArg (winnowerlaw02_BitsOnly.j1 (4096 + 3) b (m : Int) (w : Int) (outs w m (numN b))) hs).trans ?_
      rw [winnowerlaw02_BitsOnly.j1, if_neg (by decide)]
      exact goods hb hl600 hm hw hsz m 0 _ (by omega) (by omega)
    · rw [if_neg he, unpackT_bad he]
      rfl
end Go.Proofs.Ythcbcddnillipaa.Pure
