/- Statement BitsWide: numbers that are packed wider are the same numbers, and where the width is that of the greatest one none less would do; no condition. -/
import Derived.Test.YthcbcddnillipaaQx27
import Derived.Test.YthcbcddnillipaaHbitstell
import Derived.Test.YthcbcddnillipaaHawake02
namespace Go.Proofs.Ythcbcddnillipaa.Pure
open Go.RowKit Go.Proofs.Ythcbcddnillipaa.Q Go.Proofs.Ythcbcddnillipaa.Hnum Go.Proofs.Ythcbcddnillipaa.Hbits Go.Proofs.Ythcbcddnillipaa.Hbitnum Go.Proofs.YthcbcddnillipaaW.PrintWords Go.Proofs.YthcbcddnillipaaW.PrintLast
theorem ints (l : List Int) : winnowerref01_Ints.f l l = some true := by unfold winnowerref01_Ints.f; rw [decide_eq_true rfl]
theorem most (l : List Int) (hl : l.length ≤ 600) (h64 : ∀ x ∈ l, i64 x) (a : Nat) (ha : a ≤ 20) : ∀ (d i k : Nat) (m : Int), i + d = l.length → d < k → (∀ x ∈ l.take i, 0 ≤ x ∧ x ≤ m) → 0 ≤ m → i64 m → (m = 0 ∨ m ∈ l) →
    winnowerlaw02_BitsWide.l0 k l (a : Int) m (i : Int) = some true := by
  intro d
  induction d with
  | zero =>
    intro i k m hi hk hall h0 hm hmem
    obtain ⟨q, rfl⟩ : ∃ m, k = m + 1 := ⟨k - 1, by omega⟩
    rw [List.take_of_length_le (by omega)] at hall
    obtain ⟨W, hW⟩ : ∃ W : Nat, wide m = (W : Int) := ⟨_, rfl⟩
    have hmW : m.toNat < 2 ^ W := (wide_le hm).1 (by omega)
    have hup : W ≤ 64 := by
      have := (wide_le (u := 63) hm).2 (by rw [show (2 : Nat) ^ 63 = 9223372036854775808 from by decide]; have := hm.2; omega)
      omega
    rw [winnowerlaw02_BitsWide.l0, if_neg (show ¬ ((i : Int) < (l.length : Int)) from by omega), bits_Width.tell hm.2, Option.bind_some, hW, wrap_id (x := (W : Int) + (a : Int)) (by omega) (by omega)]
    by_cases h62 : (W : Int) + (a : Int) > 62
    · rw [if_pos h62]
    · have hg1 : ∀ x ∈ l, good W x := fun x hx => ⟨(hall x hx).1, by have := hall x hx; omega⟩
      have hg2 : ∀ x ∈ l, good (W + a) x := fun x hx => ⟨(hall x hx).1, Nat.lt_of_lt_of_le (hg1 x hx).2 (Nat.pow_le_pow_right (by decide) (by omega))⟩
      have hb1 : l.length * W ≤ 600 * 62 := Nat.mul_le_mul hl (by omega)
      have hb2 : l.length * (W + a) ≤ 600 * 62 := Nat.mul_le_mul hl (by omega)
      have hl1 : (bytesN (bsize (l.length * W)) (catN W l)).length ≤ 1000000 := by rw [bytesN_length]; unfold bsize; omega
      have hl2 : (bytesN (bsize (l.length * (W + a))) (catN (W + a) l)).length ≤ 1000000 := by rw [bytesN_length]; unfold bsize; omega
      have e2 : (W : Int) + (a : Int) = ((W + a : Nat) : Int) := by omega
      rw [if_neg h62, Pack_tell h64, Option.bind_some, packT_good (by omega) (by omega) hg1, e2, Pack_tell h64, Option.bind_some, packT_good (by omega) (by omega) hg2, Unpack_tell (bytesN_bytes _ _) hl1, Option.bind_some, unpack_packed (by omega) (by omega) hg1,
        Unpack_tell (bytesN_bytes _ _) hl2, Option.bind_some, unpack_packed (by omega) (by omega) hg2, ints, Option.bind_some, Option.bind_some]
      have hend : (if (0 : Int) = 0 then (if (0 : Int) = 0 then (if (0 : Int) = 0 then (if (0 : Int) = 0 then (if true = true then some true else some false) else some false) else some false) else some false) else some false) = some true := by rw [if_pos rfl, if_pos rfl, if_pos rfl, if_pos rfl, if_pos rfl]
      by_cases hw : (W : Int) > 0
      · have hbad : packT l ((W - 1 : Nat) : Int) = ([], 1) := by
          apply packT_bad _ (by omega)
          intro hok
          obtain ⟨u, hu, _, _, hgu, _⟩ := packT_ok hok
          have hu' : u = W - 1 := by omega
          have hne : m ≠ 0 := by
            rintro rfl
            have : wide 0 = 0 := by decide
            omega
          have hm2 := (hgu m (hmem.resolve_left hne)).2
          have := (wide_le hm).2 hm2
          omega
        have e3 : wrap64 ((W : Int) - 1) = ((W - 1 : Nat) : Int) := by rw [wrap_id (by omega) (by omega)]; omega
        rw [if_pos hw, e3, Pack_tell h64, Option.bind_some, hbad, if_pos rfl]
        exact hend
      · rw [if_neg hw]
        exact hend
  | succ d ih =>
    intro i k m hi hk hall h0 hm hmem
    obtain ⟨q, rfl⟩ : ∃ m, k = m + 1 := ⟨k - 1, by omega⟩
    have hlt : i < l.length := by omega
    have h1 : (i : Int) < (l.length : Int) := by omega
    have h4 : wrap64 ((i : Int) + 1) = ((i + 1 : Nat) : Int) := by rw [wrap_id (by omega) (by omega)]; omega
    have h5 : i + 1 + d = l.length := by omega
    have h6 : d < q := by omega
    have hx64 := h64 _ (List.getElem_mem hlt)
    rw [winnowerlaw02_BitsWide.l0, if_pos h1, if_pos (Int.natCast_nonneg _), rd_get hlt, h4]
    by_cases hx0 : l[i] < 0
    · rw [if_pos hx0]
    · rw [if_neg hx0]
      by_cases hx : l[i] > m
      · rw [if_pos hx]
        refine ih (i + 1) q l[i] h5 h6 (fun x hx' => ?_) (by omega) hx64 (.inr (List.getElem_mem hlt))
        rw [List.take_succ_eq_append_getElem hlt] at hx'
        rcases List.mem_append.1 hx' with h | h
        · have := hall x h; omega
        · rw [List.mem_singleton.1 h]; omega
      · rw [if_neg hx]
        refine ih (i + 1) q m h5 h6 (fun x hx' => ?_) h0 hm hmem
        rw [List.take_succ_eq_append_getElem hlt] at hx'
        rcases List.mem_append.1 hx' with h | h
        · exact hall x h
        · rw [List.mem_singleton.1 h]; omega
theorem BitsWide : winnowerlaw02_BitsWide.Pure := by
  intro l a _ _ hl _
  have hl : ∀ x ∈ l, i64 x := fun x hx => i64_of_wf (hl x hx)
  refine ⟨l.length + 3, ?_⟩
  unfold winnowerlaw02_BitsWide.f
  rw [awake02, Option.bind_some, if_pos rfl]
  by_cases h6 : (l.length : Int) > 600
  · rw [if_pos h6, winnowerlaw02_BitsWide.j0, if_pos rfl]
  · rw [if_neg h6]
    by_cases h0 : a < 0
    · rw [if_pos h0, winnowerlaw02_BitsWide.j0, if_pos rfl]
    · rw [if_neg h0, winnowerlaw02_BitsWide.j0]
      by_cases h2 : a > 20
      · rw [if_pos (decide_eq_true h2)]
      · rw [if_neg (by simpa using h2)]
        obtain ⟨n, rfl⟩ := Int.eq_ofNat_of_zero_le (show 0 ≤ a by omega)
        exact most l (by omega) hl n (by omega) l.length 0 _ 0 (by omega) (by omega) (fun x hx => by simp at hx) (Int.le_refl _) ⟨by decide, by decide⟩ (.inl rfl)
end Go.Proofs.Ythcbcddnillipaa.Pure
