/- The machine side of laws, written by wip/tools/myprint.py (the printer's way, with functions proved by hand put in); Lean checks it. -/
import Derived.Test.YtafljcblglielaaHnum
import Derived.Test.YtafljcblglielaaQx0
import Derived.Test.YtafljcblglielaaQx11
namespace Go.Proofs.Ytafljcblglielaa.Q
open Go.RowKit Go.Proofs.YtafljcblglielaaW.PrintWords Go.Proofs.YtafljcblglielaaW.PrintLast Go.Proofs.YtafljcblglielaaW.PrintMore
attribute [local go_sem] max2_int min2_int max_two min_two max_three min_three max_four min_four   -- for this text's walks alone
set_option linter.unusedVariables false
set_option linter.unusedSimpArgs false

-- BY HAND: Derived.Test.YtafljcblglielaaHnum
/-! ### winnowerref01_run: function 31 -/
-- HAND winnower/winnowerref01.run over
-- IMPORT Derived.Test.YtafljcblglielaaHnum
open Go.Proofs.Ytafljcblglielaa.Hnum
theorem winnowerref01_run.step {l : List Int} (hb : Bytes l) (hl : l.length ≤ 9223372036854775807) {i : Nat} (hlt : i < l.length) (q : Nat) : winnowerref01_run_p.l0 (q + 2) l (i : Int) = (if i = 9 ∧ 1 < l[i] then some (0, 7) else if 128 ≤ l[i] then winnowerref01_run_p.l0 q l ((i + 1 : Nat) : Int) else if l[i] = 0 ∧ 0 < i then some (0, 7) else some (((i + 1 : Nat) : Int), 0)) := by
  have hrd : rd l (i : Int) = l[i] := by rw [rd, Int.toNat_natCast, List.getD_eq_getElem?_getD, List.getElem?_eq_getElem hlt]; rfl
  have hx := hb l[i] (List.getElem_mem hlt)
  have e1 : winnowerref01_run_p.l0 (q + 2) l (i : Int) = winnowerref01_run_p.j1 (q + 1) l (i : Int) (decide (i = 9 ∧ 1 < l[i])) := by
    rw [winnowerref01_run_p.l0, if_pos (by omega)]
    by_cases h9 : (i : Int) = 9
    · rw [if_pos h9, if_pos (by omega), hrd]
      congr 1
      by_cases h1 : 1 < l[i]
      · rw [decide_eq_true (show l[i] > 1 from h1), decide_eq_true ⟨by omega, h1⟩]
      · rw [decide_eq_false (show ¬ l[i] > 1 from h1), decide_eq_false (fun h => h1 h.2)]
    · rw [if_neg h9]
      congr 1
      rw [decide_eq_false (fun h => h9 (by omega))]
  rw [e1, winnowerref01_run_p.j1]
  by_cases h1 : i = 9 ∧ 1 < l[i]
  · rw [if_pos (decide_eq_true h1), if_pos h1]
  · rw [if_neg (by simpa using h1), if_neg h1, if_pos (by omega), if_pos (by omega), hrd]
    have e2 : wrap64 ((i : Int) + 1) = ((i + 1 : Nat) : Int) := by rw [wrap_id (by omega) (by omega)]; omega
    rw [e2]
    by_cases h2 : 128 ≤ l[i]
    · rw [if_neg (by omega), if_pos h2]
    · rw [if_pos (by omega), if_neg h2]
      by_cases h3 : l[i] = 0
      · rw [if_pos h3]
        by_cases h4 : 0 < i
        · rw [if_pos (by omega), if_pos ⟨h3, h4⟩]
        · rw [if_neg (by omega), if_neg (fun h => h4 h.2)]
      · rw [if_neg h3, if_neg (fun h => h3 h.1)]
def winnowerref01_run.at (i : Nat) : Except Int (Nat × Nat) → Int × Int
  | .ok (_, n) => (((i + n : Nat) : Int), 0)
  | .error e => (0, e)
theorem winnowerref01_run.tells {l : List Int} (hb : Bytes l) (hl : l.length ≤ 9223372036854775807) (d : Nat) : ∀ (i k : Nat), l.length - i = d → i ≤ 9 → 2 * d + 2 ≤ k → winnowerref01_run_p.l0 k l (i : Int) = some (winnowerref01_run.at i (getd i (l.drop i))) := by
  induction d with
  | zero =>
    intro i k hd hi hk
    obtain ⟨q, rfl⟩ : ∃ m, k = m + 1 := ⟨k - 1, by omega⟩
    rw [winnowerref01_run_p.l0, if_neg (by omega), List.drop_of_length_le (by omega)]
    rfl
  | succ d ih =>
    intro i k hd hi hk
    have hlt : i < l.length := by omega
    have hx := hb l[i] (List.getElem_mem hlt)
    obtain ⟨q, rfl⟩ : ∃ m, k = m + 2 := ⟨k - 2, by omega⟩
    rw [winnowerref01_run.step hb hl hlt, List.drop_eq_getElem_cons hlt, getd]
    by_cases h1 : i = 9 ∧ 1 < l[i]
    · rw [if_pos h1, if_pos h1]; rfl
    · rw [if_neg h1, if_neg h1]
      by_cases h2 : 128 ≤ l[i]
      · rw [if_pos h2, if_pos h2, ih (i + 1) q (by omega) (by omega) (by omega)]
        cases getd (i + 1) (l.drop (i + 1)) with
        | error e => rfl
        | ok p => obtain ⟨u, n⟩ := p; simp only [winnowerref01_run.at]; rw [show i + (n + 1) = i + 1 + n from by omega]
      · rw [if_neg h2, if_neg h2]
        by_cases h3 : l[i] = 0 ∧ 0 < i
        · rw [if_pos h3, if_pos h3]; rfl
        · rw [if_neg h3, if_neg h3]; rfl
def winnowerref01_run.f (l0 : List Int) : Option (Int × Int) := if Bytes l0 then some (winnowerref01_run.at 0 (getd 0 l0)) else none
theorem winnowerref01_run.fits {l0 : List Int} {r1 r2 : Int} (hl : l0.length ≤ 9223372036854775807) (h : winnowerref01_run.f l0 = some (r1, r2)) : ∃ k, winnowerref01_run_p.f k l0 = some (r1, r2) := by
  unfold winnowerref01_run.f at h
  by_cases hb : Bytes l0
  · rw [if_pos hb] at h
    refine ⟨2 * l0.length + 2, ?_⟩
    unfold winnowerref01_run_p.f
    have := winnowerref01_run.tells hb hl l0.length 0 (2 * l0.length + 2) (by omega) (by omega) (by omega)
    rw [List.drop_zero] at this
    rw [← h]
    exact this
  · rw [if_neg hb] at h; cases h
theorem winnowerref01_run.calls (A0 : Option Addr) (c0 : Nat) (l0 : List Int) (r1 : Int) (r2 : Int) (w : World) (hr0 : Kd.C (Kd.int .u8) w A0 l0.length l0) (hc0 : l0.length ≤ c0) (h : winnowerref01_run.f l0 = some (r1, r2)) :
    Calls Try.prog 31 #[.slice A0 l0.length c0] w fun e w' => e = .returned (.tuple #[.int .i64 r1, .int .i64 r2]) ∧ Drawn0 w w' := by
  obtain ⟨k, hk⟩ := winnowerref01_run.fits hr0.2.1 h
  exact winnowerref01_run_p.calls k A0 c0 l0 r1 r2 w hr0 hc0 hk


end Go.Proofs.Ytafljcblglielaa.Q
