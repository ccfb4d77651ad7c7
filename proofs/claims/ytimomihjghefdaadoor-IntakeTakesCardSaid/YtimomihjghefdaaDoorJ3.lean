/- The machine side of laws, written by wip/tools/myprint.py (the printer's way, with functions proved by hand put in); Lean checks it. -/
import Derived.Test.YtimomihjghefdaaDoorJ1
import Derived.Test.YtimomihjghefdaaDoorJ0
namespace Go.Proofs.YtimomihjghefdaaDoor.Q
open Go.RowKit Go.Proofs.YtimomihjghefdaaDoorW.PrintWords Go.Proofs.YtimomihjghefdaaDoorW.PrintLast Go.Proofs.YtimomihjghefdaaDoorW.PrintMore
attribute [local go_sem] z0y z0v z0z z10 z0s z0t z0w z0x   -- for this text's walks alone
set_option linter.unusedVariables false
set_option linter.unusedSimpArgs false

/-! ### winnowerref01_halves_p: function 56 -/
def winnowerref01_halves_p.l0 : Nat → List Int → Int → Int → Int → Int → Option (Int × Int)
  | 0, _, _, _, _, _ => none
  | k + 1, x0, x4, x5, x6, x7 => if x7 < (x0.length : Int) then (if 0 ≤ x7 then (if x7 < 9 then (winnowerref01_halves_p.l0 k x0 (wrap64 (x4 + (wrap64 ((wrap64 (Int.tmod (rd x0 x7) 128)) * x6)))) x5 (wrap64 (x6 * 128)) (wrap64 (x7 + 1))) else (winnowerref01_halves_p.l0 k x0 (wrap64 (x4 + (wrap64 ((wrap64 (Int.tmod (rd x0 x7) 128)) * x6)))) x5 x6 (wrap64 (x7 + 1)))) else (none)) else (some (x4, x5))
def winnowerref01_halves_p.f (k : Nat) (l0 : List Int) : Option (Int × Int) := if 0 < (l0.length : Int) then (winnowerref01_halves_p.l0 k l0 (wrap64 (Int.tdiv (wrap64 (Int.tmod (rd l0 0) 128)) 2)) (Int.tmod (wrap64 (rd l0 0)) 2) 64 1) else (none)
set_option maxHeartbeats 8000000 in
set_option maxRecDepth 100000 in
theorem winnowerref01_halves_p.calls (k : Nat) (A0 : Option Addr) (c0 : Nat) (l0 : List Int) (r1 : Int) (r2 : Int) (w : World) (hr0 : Kd.C (Kd.int .u8) w A0 l0.length l0) (hc0 : l0.length ≤ c0) (h : winnowerref01_halves_p.f k l0 = some (r1, r2)) :
    Calls Tryd.prog 56 #[.slice A0 l0.length c0] w fun e w' => e = .returned (.tuple #[.int .i64 r1, .int .i64 r2]) ∧ z0k w w' := by
  have HR0 := z05.mk hr0
  have HC0 := z05.mk hc0
  clear hr0 hc0
  have H : (if 0 < (l0.length : Int) then (winnowerref01_halves_p.l0 k l0 (wrap64 (Int.tdiv (wrap64 (Int.tmod (rd l0 0) 128)) 2)) (Int.tmod (wrap64 (rd l0 0)) 2) 64 1) else (none)) = some (r1, r2) := h
  clear h
  by_cases c2 : 0 < (l0.length : Int)
  · rw [if_pos c2] at H
    have c2b0 : decide (0 < (l0.length : Int)) = true := decide_eq_true c2
    have c2b1 : decide (0 < l0.length) = true := decide_eq_true (by omega)
    clear c2
    have H' := z05.mk H
    clear H
    have p203 : 0 ≤ (0 : Int) := (by omega)
    have q203 : 0 < (l0.length : Int) := of_decide_eq_true (by first | (with_reducible assumption) | assumption)
    obtain ⟨ad203, e203, hx203_0⟩ := Kd.at_int HR0.out 0 p203 q203
    cases e203
    have qi203 : (0 < l0.length) = True := eq_true (by omega)
    (try rw [show ((0 : Int)).toNat = 0 from rfl] at hx203_0)
    (try rw [Addr.add_zero'] at hx203_0)
    replace p203 := eq_true p203
    replace q203 := eq_true q203
    have p204 : 0 ≤ (0 : Int) := (by omega)
    have q204 : 0 < (l0.length : Int) := of_decide_eq_true (by first | (with_reducible assumption) | assumption)
    obtain ⟨ad204, e204, hx204_0⟩ := Kd.at_int HR0.out 0 p204 q204
    obtain rfl : ad203 = ad204 := (by injection e204)
    have qi204 : (0 < l0.length) = True := eq_true (by omega)
    (try rw [show ((0 : Int)).toNat = 0 from rfl] at hx204_0)
    (try rw [Addr.add_zero'] at hx204_0)
    replace p204 := eq_true p204
    replace q204 := eq_true q204
    go_enter Tryd.func56, Tryd.ntmps56
    go_wp2
    go_loopg [4, 6, 7] k (fun kq v4 v6 v7 w' => ∃ (x4_1 : Int) (x6_1 : Int) (x7_1 : Int), v4 = .int .i64 x4_1 ∧ v6 = .int .i64 x6_1 ∧ v7 = .int .i64 x7_1 ∧ z05 (winnowerref01_halves_p.l0 kq l0 x4_1 (Int.tmod (wrap64 (rd l0 0)) 2) x6_1 x7_1 = some (r1, r2)) ∧ z05 (kq ≤ k) ∧ z0k w w')
    case atStart => exact ⟨(wrap64 (Int.tdiv (wrap64 (Int.tmod (rd l0 0) 128)) 2)), (64), (1), (by first | rfl | (simp; done) | (simp [*]; done)), (by first | rfl | (simp; done) | (simp [*]; done)), (by first | rfl | (simp; done) | (simp [*]; done)), H', ⟨Nat.le_refl _⟩, by repeat (first | exact z0k.refl _ | apply z0k.step)⟩
    case round =>
      clear H'
      try clear c2
      try clear c2b0
      try clear c2b1
      try clear p2
      try clear q2
      try clear hx2
      try clear qi2
      try clear hx203_0
      try clear hx204_0
      try clear p203
      try clear p204
      try clear q203
      try clear q204
      obtain ⟨x4_1, x6_1, x7_1, rfl, rfl, rfl, HA, HK1, ⟨m1, rfl⟩⟩ := hrel
      cases gk with
      | zero => exact absurd HA.out (by simp [winnowerref01_halves_p.l0])
      | succ k1 =>
        have H := HA.out
        clear HA
        simp only [winnowerref01_halves_p.l0] at H
        by_cases c3 : x7_1 < (l0.length : Int)
        · rw [if_pos c3] at H
          have c3b0 : decide (x7_1 < (l0.length : Int)) = true := decide_eq_true c3
          clear c3
          by_cases c4 : 0 ≤ x7_1
          · rw [if_pos c4] at H
            have c4b0 : decide (0 ≤ x7_1) = true := decide_eq_true c4
            clear c4
            by_cases c5 : x7_1 < 9
            · rw [if_pos c5] at H
              have c5b0 : decide (x7_1 < 9) = true := decide_eq_true c5
              clear c5
              have H' := z05.mk H
              clear H
              have p205 : 0 ≤ (x7_1 : Int) := of_decide_eq_true (by first | (with_reducible assumption) | assumption)
              have q205 : x7_1 < (l0.length : Int) := of_decide_eq_true (by first | (with_reducible assumption) | assumption)
              obtain ⟨ad205, e205, hx205_0⟩ := Kd.at_int HR0.out x7_1 p205 q205
              obtain rfl : ad203 = ad205 := (by injection e205)
              replace p205 := eq_true p205
              replace q205 := eq_true q205
              go_wp2
              go_roundg k1
              case measure => have := HK1.out; omega
              case rel => exact ⟨(wrap64 (x4_1 + (wrap64 ((wrap64 (Int.tmod (rd l0 x7_1) 128)) * x6_1)))), (wrap64 (x6_1 * 128)), (wrap64 (x7_1 + 1)), (by first | rfl | (simp; done) | (simp [*]; done)), (by first | rfl | (simp; done) | (simp [*]; done)), (by first | rfl | (simp; done) | (simp [*]; done)), H', ⟨by have := HK1.out; omega⟩, by repeat (first | exact z0k.refl _ | apply z0k.step)⟩
            · rw [if_neg c5] at H
              have c5b0 : decide (x7_1 < 9) = false := decide_eq_false c5
              clear c5
              have H' := z05.mk H
              clear H
              have p205 : 0 ≤ (x7_1 : Int) := of_decide_eq_true (by first | (with_reducible assumption) | assumption)
              have q205 : x7_1 < (l0.length : Int) := of_decide_eq_true (by first | (with_reducible assumption) | assumption)
              obtain ⟨ad205, e205, hx205_0⟩ := Kd.at_int HR0.out x7_1 p205 q205
              obtain rfl : ad203 = ad205 := (by injection e205)
              replace p205 := eq_true p205
              replace q205 := eq_true q205
              go_wp2
              go_roundg k1
              case measure => have := HK1.out; omega
              case rel => exact ⟨(wrap64 (x4_1 + (wrap64 ((wrap64 (Int.tmod (rd l0 x7_1) 128)) * x6_1)))), (x6_1), (wrap64 (x7_1 + 1)), (by first | rfl | (simp; done) | (simp [*]; done)), (by first | rfl | (simp; done) | (simp [*]; done)), (by first | rfl | (simp; done) | (simp [*]; done)), H', ⟨by have := HK1.out; omega⟩, by repeat (first | exact z0k.refl _ | apply z0k.step)⟩
          · rw [if_neg c4] at H
            exact absurd H (by simp)
        · rw [if_neg c3] at H
          have c3b0 : decide (x7_1 < (l0.length : Int)) = false := decide_eq_false c3
          clear c3
          simp only [Option.some.injEq, Prod.mk.injEq] at H
          obtain ⟨rfl, rfl⟩ := H
          go_wp2
          go_ret2
          exact ⟨by first | rfl | (simp; done) | (simp [*]; done), by repeat (first | exact z0k.refl _ | apply z0k.step)⟩
  · rw [if_neg c2] at H
    exact absurd H (by simp)

end Go.Proofs.YtimomihjghefdaaDoor.Q
namespace Go.Proofs.YtimomihjghefdaaDoor.Q
open Go.RowKit Go.Proofs.YtimomihjghefdaaDoorW.PrintWords Go.Proofs.YtimomihjghefdaaDoorW.PrintLast Go.Proofs.YtimomihjghefdaaDoorW.PrintMore
attribute [local go_sem] z0y z0v z0z z10 z0s z0t z0w z0x   -- for this text's walks alone
set_option linter.unusedVariables false
set_option linter.unusedSimpArgs false

-- BY HAND: Derived.Test.YtimomihjghefdaaDoorHnum
/-! ### winnowerref01_halves: function 56 -/
-- HAND winnower/winnowerref01.halves over
-- IMPORT Derived.Test.YtimomihjghefdaaDoorHnum
open Go.Proofs.YtimomihjghefdaaDoor.Hnum
/-- The scale at a place. -/
def winnowerref01_halves.sc (i : Nat) : Nat := 64 * 128 ^ (i - 1)
theorem winnowerref01_halves.sc_succ {i : Nat} (h : 1 ≤ i) : winnowerref01_halves.sc (i + 1) = winnowerref01_halves.sc i * 128 := by
  obtain ⟨j, rfl⟩ : ∃ j, i = j + 1 := ⟨i - 1, by omega⟩
  unfold winnowerref01_halves.sc
  rw [Nat.add_sub_cancel, Nat.add_sub_cancel, Nat.pow_succ, Nat.mul_assoc]
theorem winnowerref01_halves.sc_small {i : Nat} (h : 1 ≤ i) (h9 : i ≤ 9) : winnowerref01_halves.sc i ≤ 4611686018427387904 := by
  have : i = 1 ∨ i = 2 ∨ i = 3 ∨ i = 4 ∨ i = 5 ∨ i = 6 ∨ i = 7 ∨ i = 8 ∨ i = 9 := by omega
  unfold winnowerref01_halves.sc
  rcases this with rfl | rfl | rfl | rfl | rfl | rfl | rfl | rfl | rfl <;> decide
theorem winnowerref01_halves.w1 {i : Nat} (h9 : i ≤ 9) : wrap64 ((i : Int) + 1) = ((i + 1 : Nat) : Int) := z1c (x := ((i + 1 : Nat) : Int)) (by omega) (by omega)
theorem winnowerref01_halves.w2 {i : Nat} (h : i < 9223372036854775808) : wrap64 (i : Int) = (i : Int) := z1c (by omega) (by omega)
theorem winnowerref01_halves.step {l : List Int} (hb : Bytes l) {i : Nat} (hlt : i < l.length) (h9 : i ≤ 9) (half bit q s s' c p : Nat) (hp : p = c * s) (hc : (l[i] : Int) % 128 = (c : Int)) (hs : half + p < 9223372036854775808) (hs' : s' = if i < 9 then s * 128 else s) (hsm : s' ≤ 4611686018427387904) :
    winnowerref01_halves_p.l0 (q + 1) l (half : Int) (bit : Int) (s : Int) (i : Int) = winnowerref01_halves_p.l0 q l ((half + p : Nat) : Int) (bit : Int) (s' : Int) ((i + 1 : Nat) : Int) := by
  have hrd : rd l (i : Int) = l[i] := by rw [rd, Int.toNat_natCast, List.getD_eq_getElem?_getD, List.getElem?_eq_getElem hlt]; rfl
  have hx := hb l[i] (List.getElem_mem hlt)
  have e1 : Int.tmod (l[i]) 128 = (c : Int) := by rw [Int.tmod_eq_emod_of_nonneg hx.1]; exact hc
  have hc1 : c < 128 := by omega
  have g1 : (i : Int) < (l.length : Int) := by omega
  have g2 : 0 ≤ (i : Int) := by omega
  have g3 : c < 9223372036854775808 := by omega
  have g4 : p < 9223372036854775808 := by omega
  have e2 : (c : Int) * (s : Int) = (p : Int) := by rw [hp]; simp
  rw [winnowerref01_halves_p.l0, if_pos g1, if_pos g2, hrd, e1, winnowerref01_halves.w2 g3, e2, winnowerref01_halves.w2 g4]
  clear e2 hp hc e1 hrd
  rw [show wrap64 ((half : Int) + (p : Int)) = ((half + p : Nat) : Int) from winnowerref01_halves.w2 hs, winnowerref01_halves.w1 h9]
  by_cases h : i < 9
  · rw [if_pos h] at hs'
    have g5 : s * 128 < 9223372036854775808 := by omega
    have g6 : (i : Int) < 9 := by omega
    rw [if_pos g6, hs', show wrap64 ((s : Int) * 128) = ((s * 128 : Nat) : Int) from winnowerref01_halves.w2 g5]
  · rw [if_neg h] at hs'
    have g6 : ¬ (i : Int) < 9 := by omega
    rw [if_neg g6, hs']
theorem winnowerref01_halves.tells {l : List Int} (hb : Bytes l) (m : Nat) : ∀ (i k half bit u : Nat), getd i (l.drop i) = .ok (u, m) → i + m = l.length → 1 ≤ i → i ≤ 9 → half + u * winnowerref01_halves.sc i < 9223372036854775808 → m < k →
    winnowerref01_halves_p.l0 k l (half : Int) (bit : Int) (winnowerref01_halves.sc i : Int) (i : Int) = some (((half + u * winnowerref01_halves.sc i : Nat) : Int), (bit : Int)) := by
  induction m with
  | zero =>
    intro i k half bit u hg _ _ h9 _ _
    have := (z20 (by omega) (hb.drop i) hg).1
    omega
  | succ m ih =>
    intro i k half bit u hg hl h1 h9 hs hk
    have hlt : i < l.length := by omega
    have hx := hb l[i] (List.getElem_mem hlt)
    obtain ⟨q, rfl⟩ : ∃ m, k = m + 1 := ⟨k - 1, by omega⟩
    rw [List.drop_eq_getElem_cons hlt, getd] at hg
    by_cases c1 : i = 9 ∧ 1 < l[i]
    · rw [if_pos c1] at hg; cases hg
    · rw [if_neg c1] at hg
      by_cases c2 : 128 ≤ l[i]
      · rw [if_pos c2] at hg
        cases hr : getd (i + 1) (l.drop (i + 1)) with
        | error e => rw [hr] at hg; cases hg
        | ok p =>
          obtain ⟨u', m'⟩ := p
          rw [hr] at hg
          simp only [Except.ok.injEq, Prod.mk.injEq] at hg
          obtain ⟨rfl, hm⟩ := hg
          obtain rfl : m' = m := by omega
          have hi9 : i < 9 := by omega
          have hq : m' < q := by omega
          obtain ⟨c, hc⟩ := Int.eq_ofNat_of_zero_le (show 0 ≤ l[i] - 128 by omega)
          have hc2 : (l[i] : Int) % 128 = (c : Int) := by omega
          rw [hc, Int.toNat_natCast] at hs ⊢
          have hsum : (c + 128 * u') * winnowerref01_halves.sc i = c * winnowerref01_halves.sc i + u' * winnowerref01_halves.sc (i + 1) := by
            rw [winnowerref01_halves.sc_succ h1, Nat.add_mul, Nat.mul_comm 128 u', Nat.mul_assoc, Nat.mul_comm 128]
          rw [hsum, ← Nat.add_assoc] at hs ⊢
          have hsm := winnowerref01_halves.sc_small (i := i + 1) (by omega) (by omega)
          rw [winnowerref01_halves.step hb hlt h9 half bit q _ (winnowerref01_halves.sc (i + 1)) c _ rfl hc2 (Nat.lt_of_le_of_lt (Nat.le_add_right _ _) hs) (by rw [if_pos hi9, winnowerref01_halves.sc_succ h1]) hsm]
          exact ih (i + 1) q _ bit u' hr (by omega) (by omega) (by omega) hs hq
      · rw [if_neg c2] at hg
        by_cases c3 : l[i] = 0 ∧ 0 < i
        · rw [if_pos c3] at hg; cases hg
        · rw [if_neg c3] at hg
          simp only [Except.ok.injEq, Prod.mk.injEq] at hg
          obtain ⟨rfl, hm⟩ := hg
          have hq1 : q = q - 1 + 1 := by omega
          obtain ⟨c, hc⟩ := Int.eq_ofNat_of_zero_le hx.1
          rw [hc, Int.toNat_natCast] at hs ⊢
          have hsm : (if i < 9 then winnowerref01_halves.sc i * 128 else winnowerref01_halves.sc i) ≤ 4611686018427387904 := by
            split
            · rw [← winnowerref01_halves.sc_succ h1]; exact winnowerref01_halves.sc_small (by omega) (by omega)
            · exact winnowerref01_halves.sc_small h1 h9
          rw [winnowerref01_halves.step hb hlt h9 half bit q _ _ c _ rfl (by omega) hs rfl hsm]
          have hend : ¬ (((i + 1 : Nat) : Int) < (l.length : Int)) := by omega
          obtain ⟨q, rfl⟩ : ∃ m, q = m + 1 := ⟨q - 1, hq1⟩
          rw [winnowerref01_halves_p.l0, if_neg hend]
def winnowerref01_halves.at (n : Nat) : Except Int (Nat × Nat) → Option (Int × Int)
  | .ok (u, m) => if m = n then some (((u / 2 : Nat) : Int), ((u % 2 : Nat) : Int)) else none
  | .error _ => none
def winnowerref01_halves.f (l0 : List Int) : Option (Int × Int) := if Bytes l0 then winnowerref01_halves.at l0.length (getd 0 l0) else none
theorem winnowerref01_halves.fits {l0 : List Int} {r1 r2 : Int} (_ : l0.length ≤ 9223372036854775807) (h : winnowerref01_halves.f l0 = some (r1, r2)) : ∃ k, winnowerref01_halves_p.f k l0 = some (r1, r2) := by
  unfold winnowerref01_halves.f at h
  by_cases hb : Bytes l0
  · rw [if_pos hb] at h
    cases hg : getd 0 l0 with
    | error e => rw [hg] at h; cases h
    | ok p =>
      obtain ⟨u, m⟩ := p
      rw [hg, winnowerref01_halves.at] at h
      by_cases hm : m = l0.length
      · rw [if_pos hm] at h
        rw [← h]
        have hbound := (z20 (by omega) hb hg).2.2.2.2.1
        rw [Nat.pow_zero, Nat.mul_one] at hbound
        refine ⟨l0.length + 2, ?_⟩
        unfold winnowerref01_halves_p.f
        cases l0 with
        | nil => cases hg
        | cons d t =>
          have hx := hb d (List.mem_cons_self ..)
          have hrd : rd (d :: t) 0 = d := rfl
          rw [getd] at hg
          obtain ⟨dn, rfl⟩ := Int.eq_ofNat_of_zero_le hx.1
          have e1 : wrap64 (Int.tdiv (wrap64 (Int.tmod (dn : Int) 128)) 2) = ((dn % 128 / 2 : Nat) : Int) := by
            rw [Int.tmod_eq_emod_of_nonneg (by omega), z1c (x := (dn : Int) % 128) (by omega) (by omega), Int.tdiv_eq_ediv_of_nonneg (by omega), z1c (by omega) (by omega)]; omega
          have e2 : Int.tmod (wrap64 (dn : Int)) 2 = ((dn % 2 : Nat) : Int) := by
            rw [z1c (x := (dn : Int)) (by omega) (by omega), Int.tmod_eq_emod_of_nonneg (by omega)]; omega
          rw [if_pos (by simp only [List.length_cons]; omega), hrd, e1, e2]
          rw [if_neg (by omega)] at hg
          by_cases c2 : 128 ≤ (dn : Int)
          · rw [if_pos c2] at hg
            cases hr : getd 1 t with
            | error e => rw [hr] at hg; cases hg
            | ok p =>
              obtain ⟨u', m'⟩ := p
              rw [hr] at hg
              simp only [Except.ok.injEq, Prod.mk.injEq] at hg
              obtain ⟨rfl, rfl⟩ := hg
              have hd : ((dn : Int) - 128).toNat = dn - 128 := by omega
              rw [hd] at hbound ⊢
              have hsc : winnowerref01_halves.sc 1 = 64 := rfl
              have := winnowerref01_halves.tells (l := (dn : Int) :: t) hb m' 1 ((dn : Int) :: t).length.succ.succ (dn % 128 / 2) (dn % 2) u' (by simpa using hr) (by simp only [List.length_cons] at hm ⊢; omega) (by omega) (by omega) (by rw [hsc]; omega) (by simp only [List.length_cons] at hm ⊢; omega)
              rw [hsc] at this
              refine this.trans ?_
              congr 2
              · omega
              · omega
          · rw [if_neg c2] at hg
            rw [if_neg (by omega)] at hg
            simp only [Except.ok.injEq, Prod.mk.injEq] at hg
            obtain ⟨rfl, rfl⟩ := hg
            rw [winnowerref01_halves_p.l0, if_neg (by simp only [List.length_cons] at hm ⊢; omega), Int.toNat_natCast]
            congr 2
            omega
      · rw [if_neg hm] at h; cases h
  · rw [if_neg hb] at h; cases h
theorem winnowerref01_halves.calls (A0 : Option Addr) (c0 : Nat) (l0 : List Int) (r1 : Int) (r2 : Int) (w : World) (hr0 : Kd.C (Kd.int .u8) w A0 l0.length l0) (hc0 : l0.length ≤ c0) (h : winnowerref01_halves.f l0 = some (r1, r2)) :
    Calls Tryd.prog 56 #[.slice A0 l0.length c0] w fun e w' => e = .returned (.tuple #[.int .i64 r1, .int .i64 r2]) ∧ z0k w w' := by
  obtain ⟨k, hk⟩ := winnowerref01_halves.fits hr0.2.1 h
  exact winnowerref01_halves_p.calls k A0 c0 l0 r1 r2 w hr0 hc0 hk

end Go.Proofs.YtimomihjghefdaaDoor.Q
