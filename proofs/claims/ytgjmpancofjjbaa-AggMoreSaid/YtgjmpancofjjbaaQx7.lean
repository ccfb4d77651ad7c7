/- The machine side of laws, written by wip/tools/myprint.py (the printer's way, with functions proved by hand put in); Lean checks it. -/
import Derived.Test.YtgjmpancofjjbaaHnum
import Derived.Test.YtgjmpancofjjbaaHval
import Derived.Test.YtgjmpancofjjbaaQx0
import Derived.Test.YtgjmpancofjjbaaQx6
namespace Go.Proofs.Ytgjmpancofjjbaa.Q
open Go.RowKit Go.Proofs.YtgjmpancofjjbaaW.PrintWords Go.Proofs.YtgjmpancofjjbaaW.PrintLast Go.Proofs.YtgjmpancofjjbaaW.PrintMore
attribute [local go_sem] max2_int min2_int max_two min_two max_three min_three max_four min_four   -- for this text's walks alone
set_option linter.unusedVariables false
set_option linter.unusedSimpArgs false

-- BY HAND: Derived.Test.YtgjmpancofjjbaaHnum,Derived.Test.YtgjmpancofjjbaaHval
/-! ### winnowerref06_text: function 20 -/
-- HAND winnower/winnowerref06.text over
-- IMPORT Derived.Test.YtgjmpancofjjbaaHnum
-- IMPORT Derived.Test.YtgjmpancofjjbaaHval
open Go.Proofs.Ytgjmpancofjjbaa.Hnum Go.Proofs.Ytgjmpancofjjbaa.Hval
theorem winnowerref06_text.bt_at {s : ByteArray} {i : Nat} (h : i < s.size) : bt s (i : Int) = (((s.data.toList[i]'(by simpa using h)).toNat : Nat) : Int) := by
  unfold bt
  rw [dif_pos (by rw [Int.toNat_natCast]; exact h)]
  simp only [Int.toNat_natCast, Array.getElem_toList]
  rfl
theorem winnowerref06_text.tells {a b : ByteArray} (ha : a.size ≤ 9223372036854775807) (d : Nat) : ∀ (i k : Nat), a.size - i = d → i ≤ a.size → i ≤ b.size → 2 * d + 2 ≤ k → winnowerref06_text_p.l0 k a b (i : Int) = some (cmpS (a.data.toList.drop i) (b.data.toList.drop i)) := by
  have hla : a.data.toList.length = a.size := by simp
  have hlb : b.data.toList.length = b.size := by simp
  induction d with
  | zero =>
    intro i k hd hi hib hk
    obtain ⟨q, rfl⟩ : ∃ m, k = m + 2 := ⟨k - 2, by omega⟩
    rw [winnowerref06_text_p.l0, if_neg (by omega), winnowerref06_text_p.j1, if_neg (by decide), List.drop_of_length_le (l := a.data.toList) (by omega)]
    by_cases h : i < b.size
    · rw [if_pos (by omega), List.drop_eq_getElem_cons (l := b.data.toList) (by omega)]; rfl
    · rw [if_neg (by omega), if_neg (by omega), List.drop_of_length_le (l := b.data.toList) (by omega)]; rfl
  | succ d ih =>
    intro i k hd hi hib hk
    obtain ⟨q, rfl⟩ : ∃ m, k = m + 2 := ⟨k - 2, by omega⟩
    have hlt : i < a.size := by omega
    rw [winnowerref06_text_p.l0, if_pos (by omega), winnowerref06_text_p.j1, List.drop_eq_getElem_cons (l := a.data.toList) (by omega)]
    by_cases h : i < b.size
    · have e5 : wrap64 ((i : Int) + 1) = ((i + 1 : Nat) : Int) := by rw [wrap_id (by omega) (by omega)]; omega
      have ihh := ih (i + 1) q (by omega) (by omega) (by omega) (by omega)
      have g0 : (i : Int) < (b.size : Int) := by omega
      have g1 : (i : Int) < (a.size : Int) := by omega
      have g2 : 0 ≤ (i : Int) := by omega
      have g3 : i < b.data.toList.length := by omega
      rw [if_pos (decide_eq_true g0), if_pos g2, if_pos g1, if_pos g0, winnowerref06_text.bt_at hlt, winnowerref06_text.bt_at h, e5, List.drop_eq_getElem_cons (l := b.data.toList) g3, cmpS_cons, ihh]
      clear e5 ihh ih
      generalize (a.data.toList[i]'_).toNat = x
      generalize (b.data.toList[i]'_).toNat = y
      by_cases h1 : x < y
      · rw [if_pos (by omega), if_pos h1]
      · rw [if_neg (by omega), if_neg h1]
        by_cases h2 : x > y
        · rw [if_pos (by omega), if_pos h2]
        · rw [if_neg (by omega), if_neg h2]
    · rw [decide_eq_false (by omega), if_neg (by decide), if_neg (by omega), if_pos (by omega), List.drop_of_length_le (l := b.data.toList) (by omega)]; rfl
def winnowerref06_text.f (a0 a1 : ByteArray) : Option Int := if a0.size ≤ 9223372036854775807 then some (cmpS a0.toList a1.toList) else none
theorem winnowerref06_text.fits {a0 a1 : ByteArray} {r : Int} (h : winnowerref06_text.f a0 a1 = some r) : ∃ k, winnowerref06_text_p.f k a0 a1 = some r := by
  unfold winnowerref06_text.f at h
  by_cases hl : a0.size ≤ 9223372036854775807
  · rw [if_pos hl] at h
    refine ⟨2 * a0.size + 2, ?_⟩
    unfold winnowerref06_text_p.f
    have := winnowerref06_text.tells (b := a1) hl a0.size 0 (2 * a0.size + 2) (by omega) (by omega) (by omega) (by omega)
    rw [List.drop_zero, List.drop_zero, ← ByteArray.toList_eq, ← ByteArray.toList_eq] at this
    rw [← h]
    exact this
  · rw [if_neg hl] at h; cases h
theorem winnowerref06_text.calls (a0 : ByteArray) (a1 : ByteArray) (r : Int) (w : World) (h : winnowerref06_text.f a0 a1 = some r) :
    Calls Try.prog 20 #[.string a0, .string a1] w fun e w' => e = .returned (.int .i64 r) ∧ Drawn0 w w' := by
  obtain ⟨k, hk⟩ := winnowerref06_text.fits  h
  exact winnowerref06_text_p.calls k a0 a1 r w hk


end Go.Proofs.Ytgjmpancofjjbaa.Q
