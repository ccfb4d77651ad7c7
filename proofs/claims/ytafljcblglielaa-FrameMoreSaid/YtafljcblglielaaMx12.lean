/- The machine side of laws, written by wip/tools/myprint.py (the printer's way, with functions proved by hand put in); Lean checks it. -/
import Derived.Test.YtafljcblglielaaHnum
import Derived.Test.YtafljcblglielaaMx0
import Derived.Test.YtafljcblglielaaMx11
namespace Go.Proofs.Ytafljcblglielaa.M
open Go.RowKit Go.Proofs.YtafljcblglielaaW.PrintWords Go.Proofs.YtafljcblglielaaW.PrintLast Go.Proofs.YtafljcblglielaaW.PrintMore
attribute [local go_sem] max2_int min2_int max_two min_two max_three min_three max_four min_four   -- for this text's walks alone
set_option linter.unusedVariables false
set_option linter.unusedSimpArgs false

-- BY HAND: Derived.Test.YtafljcblglielaaHnum
/-! ### num_get: function 33 -/
-- HAND winnower/num.get over
-- IMPORT Derived.Test.YtafljcblglielaaHnum
open Go.Proofs.Ytafljcblglielaa.Hnum
/-- What is got, behind digits that are gone. -/
def num_get.comb (acc k : Nat) : Except Int (Nat × Nat) → Int × Int × Int
  | .ok (u, n) => (((acc + u * 128 ^ k : Nat) : Int), ((k + n : Nat) : Int), 0)
  | .error e => (0, 0, e)
theorem num_get.tell (l : List Int) (hb : Bytes l) (hl : l.length ≤ 9223372036854775807) : ∀ (d k acc kq : Nat), k + d = l.length → k ≤ 9 → acc < 128 ^ k → 2 * d < kq →
    num_get_p.l0 kq (acc : Int) l (l.length : Int) (k : Int) = some (num_get.comb acc k (getd k (l.drop k))) := by
  intro d
  induction d with
  | zero =>
    intro k acc kq hd hk ha hq
    obtain ⟨q, rfl⟩ : ∃ m, kq = m + 1 := ⟨kq - 1, by omega⟩
    simp only [num_get_p.l0]
    rw [if_neg (by omega), List.drop_of_length_le (by omega)]
    rfl
  | succ d ih =>
    intro k acc kq hd hk ha hq
    obtain ⟨q, rfl⟩ : ∃ m, kq = m + 2 := ⟨kq - 2, by omega⟩
    have hlt : k < l.length := by omega
    have hx := hb _ (List.getElem_mem hlt)
    have hrd : rd l (k : Int) = l[k] := by rw [rd, Int.toNat_natCast, List.getD_eq_getElem?_getD, List.getElem?_eq_getElem hlt]; rfl
    obtain ⟨x, hxe⟩ : ∃ x : Nat, l[k] = (x : Int) := Int.eq_ofNat_of_zero_le hx.1
    rw [List.drop_eq_getElem_cons hlt]
    have hstep : num_get_p.l0 (q + 2) (acc : Int) l (l.length : Int) (k : Int) = num_get_p.j1 (q + 1) (acc : Int) (k : Int) (x : Int) l (l.length : Int) (k : Int) (decide (k = 9 ∧ 1 < (x : Int))) := by
      rw [num_get_p.l0, if_pos (by omega), if_pos (by omega), if_pos (by omega), hrd, hxe]
      by_cases h9 : k = 9
      · rw [if_pos (by omega)]; congr 1; simp [h9]
      · rw [if_neg (by omega)]; congr 1; simp [h9]
    rw [hstep, hxe, getd]
    simp only [num_get_p.j1]
    rw [hxe] at hx
    by_cases h1 : k = 9 ∧ 1 < (x : Int)
    · rw [if_pos (by simpa using h1), if_pos h1]; rfl
    · rw [if_neg (by simpa using h1), if_neg h1]
      have hw : (0 : Int) ≤ wrap64 (7 * (k : Int)) := by rw [show wrap64 (7 * (k : Int)) = ((7 * k : Nat) : Int) from by unfold wrap64; omega]; omega
      by_cases h2 : 128 ≤ (x : Int)
      · rw [if_pos h2, if_pos h2, if_pos hw, show ((x : Int) - 128) % 256 = ((x - 128 : Nat) : Int) from by omega, or_shift ha (by omega) hk (by omega),
          show wrap64 ((k : Int) + 1) = ((k + 1 : Nat) : Int) from by unfold wrap64; omega]
        have hk9 : k ≠ 9 := fun h9 => h1 ⟨h9, by omega⟩
        rw [ih (k + 1) (acc + (x - 128) * 128 ^ k) q (by omega) (by omega) ?_ (by omega)]
        · cases hg : getd (k + 1) (l.drop (k + 1)) with
          | error e => rfl
          | ok p =>
            obtain ⟨u, n⟩ := p
            simp only [num_get.comb]
            have e1 : acc + (x - 128) * 128 ^ k + u * 128 ^ (k + 1) = acc + (((x : Int) - 128).toNat + 128 * u) * 128 ^ k := by
              rw [show ((x : Int) - 128).toNat = x - 128 from by omega, Nat.pow_succ, Nat.add_mul, Nat.add_assoc, Nat.mul_comm (128 ^ k) 128, ← Nat.mul_assoc, Nat.mul_comm u 128]
            rw [e1, show k + 1 + n = k + (n + 1) from by omega]
        · have : (x - 128) * 128 ^ k ≤ 127 * 128 ^ k := Nat.mul_le_mul_right _ (by omega)
          rw [Nat.pow_succ]; omega
      · rw [if_neg h2, if_neg h2]
        have hend : (some (Go.bits .or .u64 (acc : Int) (shl .u64 (IntKind.u64.wrap (x : Int)) (wrap64 (7 * (k : Int)))), wrap64 ((k : Int) + 1), (0 : Int))) = some (num_get.comb acc k (.ok ((x : Int).toNat, 1))) := by
          rw [show IntKind.u64.wrap (x : Int) = (x : Int) from by rw [wrap_u64]; omega, or_shift ha (by omega) hk (by omega), show wrap64 ((k : Int) + 1) = ((k + 1 : Nat) : Int) from by unfold wrap64; omega]
          simp only [num_get.comb, Int.toNat_natCast]
        by_cases h3 : (x : Int) = 0
        · rw [if_pos h3]
          by_cases h4 : 0 < k
          · rw [if_pos (by omega), if_pos ⟨h3, h4⟩]; rfl
          · rw [if_neg (by omega), if_pos hw, if_neg (fun h => h4 h.2)]; exact hend
        · rw [if_neg h3, if_pos hw, if_neg (fun h => h3 h.1)]; exact hend
def num_get.f (l0 : List Int) : Option (Int × Int × Int) := if Bytes l0 then some (trip (getd 0 l0)) else none
theorem num_get.calls (A0 : Option Addr) (c0 : Nat) (l0 : List Int) (r1 : Int) (r2 : Int) (r3 : Int) (w : World) (hr0 : Kd.C (Kd.int .u8) w A0 l0.length l0) (hc0 : l0.length ≤ c0) (h : num_get.f l0 = some (r1, r2, r3)) :
    Calls Try.prog 33 #[.slice A0 l0.length c0] w fun e w' => e = .returned (.tuple #[.int .u64 r1, .int .i64 r2, .int .i64 r3]) ∧ Drawn0 w w' := by
  unfold num_get.f at h
  by_cases hb : Bytes l0
  · rw [if_pos hb] at h
    refine num_get_p.calls (2 * l0.length + 1) A0 c0 l0 r1 r2 r3 w hr0 hc0 ?_
    rw [← h]
    have := num_get.tell l0 hb hr0.2.1 l0.length 0 0 (2 * l0.length + 1) (by omega) (by omega) (by decide) (by omega)
    unfold num_get_p.f
    rw [show (0 : Int) = ((0 : Nat) : Int) from rfl, this, List.drop_zero]
    cases getd 0 l0 with
    | error e => rfl
    | ok p => obtain ⟨u, n⟩ := p; simp [num_get.comb, trip]
  · rw [if_neg hb] at h; cases h

end Go.Proofs.Ytafljcblglielaa.M
