/- The machine side of laws, written by wip/tools/myprint.py (the printer's way, with functions proved by hand put in); Lean checks it. -/
import Derived.Test.YthcbcddnillipaaHbitnum
import Derived.Test.YthcbcddnillipaaQx0
import Derived.Test.YthcbcddnillipaaQx15
namespace Go.Proofs.Ythcbcddnillipaa.Q
open Go.RowKit Go.Proofs.YthcbcddnillipaaW.PrintWords Go.Proofs.YthcbcddnillipaaW.PrintLast Go.Proofs.YthcbcddnillipaaW.PrintMore
attribute [local go_sem] max2_int min2_int max_two min_two max_three min_three max_four min_four   -- for this text's walks alone
set_option linter.unusedVariables false
set_option linter.unusedSimpArgs false

-- BY HAND: Derived.Test.YthcbcddnillipaaHbitnum
/-! ### winnowerref02_value: function 25 -/
-- HAND winnower/winnowerref02.value over
-- IMPORT Derived.Test.YthcbcddnillipaaHbitnum
open Go.Proofs.Ythcbcddnillipaa.Hnum Go.Proofs.Ythcbcddnillipaa.Hbits Go.Proofs.Ythcbcddnillipaa.Hbitnum
theorem winnowerref02_value.tell (l : List Int) (hb : Bits l) (hl : l.length ≤ 62) : ∀ (j kq : Nat), j ≤ l.length → j < kq → winnowerref02_value_p.l0 kq l ((valB (l.drop j) : Nat) : Int) ((j : Int) - 1) = some ((valB l : Nat) : Int) := by
  intro j
  induction j with
  | zero =>
    intro kq hj hq
    obtain ⟨q, rfl⟩ : ∃ m, kq = m + 1 := ⟨kq - 1, by omega⟩
    rw [winnowerref02_value_p.l0, if_neg (by omega), List.drop_zero]
  | succ j ih =>
    intro kq hj hq
    obtain ⟨q, rfl⟩ : ∃ m, kq = m + 1 := ⟨kq - 1, by omega⟩
    have hlt : j < l.length := by omega
    have hx := hb _ (List.getElem_mem hlt)
    have hd : valB (l.drop j) = l[j].toNat + 2 * valB (l.drop (j + 1)) := by rw [List.drop_eq_getElem_cons hlt, valB]
    have hv := valB_lt (hb.drop j)
    rw [List.length_drop] at hv
    have hp : 2 ^ (l.length - j) ≤ 4611686018427387904 := Nat.pow_le_pow_right (n := 2) (by decide) (show l.length - j ≤ 62 by omega)
    have e0 : (((j + 1 : Nat) : Int) - 1) = (j : Int) := by omega
    have e1 : wrap64 (2 * ((valB (l.drop (j + 1)) : Nat) : Int)) = 2 * ((valB (l.drop (j + 1)) : Nat) : Int) := wrap_id (by omega) (by omega)
    have e2 : 2 * ((valB (l.drop (j + 1)) : Nat) : Int) + l[j] = ((valB (l.drop j) : Nat) : Int) := by omega
    have e3 : wrap64 ((valB (l.drop j) : Nat) : Int) = ((valB (l.drop j) : Nat) : Int) := wrap_id (by omega) (by omega)
    have e4 : wrap64 ((j : Int) - 1) = (j : Int) - 1 := wrap_id (by omega) (by omega)
    rw [winnowerref02_value_p.l0, e0, if_pos (by omega), if_pos (by omega), if_pos (by omega), rd_get hlt, e1, e2, e3, e4]
    exact ih q (by omega) (by omega)
def winnowerref02_value.f (l0 : List Int) : Option Int := if Bits l0 ∧ l0.length ≤ 62 then some ((valB l0 : Nat) : Int) else none
theorem winnowerref02_value.fits {l0 : List Int} {r : Int} (_ : l0.length ≤ 9223372036854775807) (h : winnowerref02_value.f l0 = some r) : ∃ k, winnowerref02_value_p.f k l0 = some r := by
  unfold winnowerref02_value.f at h
  by_cases hc : Bits l0 ∧ l0.length ≤ 62
  · rw [if_pos hc] at h
    rw [← h]
    refine ⟨l0.length + 1, ?_⟩
    have := winnowerref02_value.tell l0 hc.1 hc.2 l0.length (l0.length + 1) (by omega) (by omega)
    rw [List.drop_length] at this
    unfold winnowerref02_value_p.f
    have hl := hc.2
    rw [wrap_id (x := (l0.length : Int) - 1) (by omega) (by omega)]
    exact this
  · rw [if_neg hc] at h; cases h
theorem winnowerref02_value.calls (A0 : Option Addr) (c0 : Nat) (l0 : List Int) (r : Int) (w : World) (hr0 : Kd.C (Kd.int .i64) w A0 l0.length l0) (hc0 : l0.length ≤ c0) (h : winnowerref02_value.f l0 = some r) :
    Calls Try.prog 25 #[.slice A0 l0.length c0] w fun e w' => e = .returned (.int .i64 r) ∧ Drawn0 w w' := by
  obtain ⟨k, hk⟩ := winnowerref02_value.fits hr0.2.1 h
  exact winnowerref02_value_p.calls k A0 c0 l0 r w hr0 hc0 hk


end Go.Proofs.Ythcbcddnillipaa.Q
