/- The machine side of laws, written by wip/tools/myprint.py (the printer's way, with functions proved by hand put in); Lean checks it. -/
import Derived.Test.YtafljcblglielaaMx0
import Derived.Test.YtafljcblglielaaMx7
namespace Go.Proofs.Ytafljcblglielaa.M
open Go.RowKit Go.Proofs.YtafljcblglielaaW.PrintWords Go.Proofs.YtafljcblglielaaW.PrintLast Go.Proofs.YtafljcblglielaaW.PrintMore
attribute [local go_sem] max2_int min2_int max_two min_two max_three min_three max_four min_four   -- for this text's walks alone
set_option linter.unusedVariables false
set_option linter.unusedSimpArgs false

-- BY HAND: 
/-! ### winnowerref01_Same: function 11 -/
-- HAND winnower/winnowerref01.Same over
theorem winnowerref01_Same.tell (a b : List Int) (hl : a.length = b.length) (h63 : a.length ≤ 9223372036854775807) : ∀ (d k kq : Nat), k + d = a.length → d < kq →
    winnowerref01_Same_p.l0 kq a b (k : Int) = some (decide (a.drop k = b.drop k)) := by
  intro d
  induction d with
  | zero =>
    intro k kq hd hq
    obtain ⟨q, rfl⟩ : ∃ m, kq = m + 1 := ⟨kq - 1, by omega⟩
    simp only [winnowerref01_Same_p.l0]
    rw [if_neg (by omega), List.drop_of_length_le (by omega), List.drop_of_length_le (by omega)]
    rfl
  | succ d ih =>
    intro k kq hd hq
    obtain ⟨q, rfl⟩ : ∃ m, kq = m + 1 := ⟨kq - 1, by omega⟩
    have ha : k < a.length := by omega
    have hb : k < b.length := by omega
    have ra : rd a (k : Int) = a[k] := by rw [rd, Int.toNat_natCast, List.getD_eq_getElem?_getD, List.getElem?_eq_getElem ha]; rfl
    have rb : rd b (k : Int) = b[k] := by rw [rd, Int.toNat_natCast, List.getD_eq_getElem?_getD, List.getElem?_eq_getElem hb]; rfl
    simp only [winnowerref01_Same_p.l0]
    rw [if_pos (by omega), if_pos (by omega), if_pos (by omega), ra, rb, List.drop_eq_getElem_cons ha, List.drop_eq_getElem_cons hb]
    by_cases h : a[k] = b[k]
    · rw [if_pos h, show wrap64 ((k : Int) + 1) = ((k + 1 : Nat) : Int) from by unfold wrap64; omega, ih (k + 1) q (by omega) (by omega)]
      exact congrArg some (decide_eq_decide.2 ⟨fun e => by rw [h, e], fun e => (List.cons.inj e).2⟩)
    · rw [if_neg h]
      exact congrArg some (decide_eq_false (fun e => h (List.cons.inj e).1)).symm
def winnowerref01_Same.f (l0 l1 : List Int) : Option Bool := some (decide (l0 = l1))
theorem winnowerref01_Same.calls (A0 : Option Addr) (c0 : Nat) (l0 : List Int) (A1 : Option Addr) (c1 : Nat) (l1 : List Int) (r : Bool) (w : World) (hr0 : Kd.C (Kd.int .u8) w A0 l0.length l0) (hc0 : l0.length ≤ c0) (hr1 : Kd.C (Kd.int .u8) w A1 l1.length l1) (hc1 : l1.length ≤ c1) (h : winnowerref01_Same.f l0 l1 = some r) :
    Calls Try.prog 11 #[.slice A0 l0.length c0, .slice A1 l1.length c1] w fun e w' => e = .returned (.bool r) ∧ Drawn0 w w' := by
  refine winnowerref01_Same_p.calls (l0.length + 1) A0 c0 l0 A1 c1 l1 r w hr0 hc0 hr1 hc1 ?_
  rw [← h]
  unfold winnowerref01_Same_p.f winnowerref01_Same.f
  by_cases hl : l0.length = l1.length
  · rw [if_pos (by omega), show (0 : Int) = ((0 : Nat) : Int) from rfl, winnowerref01_Same.tell l0 l1 hl hr0.2.1 l0.length 0 _ (by omega) (by omega), List.drop_zero, List.drop_zero]
  · rw [if_neg (by omega)]
    congr 1
    symm
    simp only [decide_eq_false_iff_not]
    intro e; exact hl (by rw [e])

end Go.Proofs.Ytafljcblglielaa.M
