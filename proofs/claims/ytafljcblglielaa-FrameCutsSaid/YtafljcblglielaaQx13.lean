/- The machine side of laws, written by wip/tools/myprint.py (the printer's way, with functions proved by hand put in); Lean checks it. -/
import Derived.Test.YtafljcblglielaaQx0
namespace Go.Proofs.Ytafljcblglielaa.Q
open Go.RowKit Go.Proofs.YtafljcblglielaaW.PrintWords Go.Proofs.YtafljcblglielaaW.PrintLast Go.Proofs.YtafljcblglielaaW.PrintMore
attribute [local go_sem] max2_int min2_int max_two min_two max_three min_three max_four min_four   -- for this text's walks alone
set_option linter.unusedVariables false
set_option linter.unusedSimpArgs false

/-! ### winnowerref01_halves_p: function 32 -/
def winnowerref01_halves_p.l0 : Nat → List Int → Int → Int → Int → Int → Option (Int × Int)
  | 0, _, _, _, _, _ => none
  | k + 1, x0, x4, x5, x6, x7 => if x7 < (x0.length : Int) then (if 0 ≤ x7 then (if x7 < 9 then (winnowerref01_halves_p.l0 k x0 (wrap64 (x4 + (wrap64 ((wrap64 (Int.tmod (rd x0 x7) 128)) * x6)))) x5 (wrap64 (x6 * 128)) (wrap64 (x7 + 1))) else (winnowerref01_halves_p.l0 k x0 (wrap64 (x4 + (wrap64 ((wrap64 (Int.tmod (rd x0 x7) 128)) * x6)))) x5 x6 (wrap64 (x7 + 1)))) else (none)) else (some (x4, x5))
def winnowerref01_halves_p.f (k : Nat) (l0 : List Int) : Option (Int × Int) := if 0 < (l0.length : Int) then (winnowerref01_halves_p.l0 k l0 (wrap64 (Int.tdiv (wrap64 (Int.tmod (rd l0 0) 128)) 2)) (Int.tmod (wrap64 (rd l0 0)) 2) 64 1) else (none)
theorem winnowerref01_halves_p.mono_l : ∀ k, (∀ y0 y1 y2 y3 y4, LeO (winnowerref01_halves_p.l0 k y0 y1 y2 y3 y4) (winnowerref01_halves_p.l0 (k + 1) y0 y1 y2 y3 y4))
  | 0 => fun _ _ _ _ _ r h => by simp [winnowerref01_halves_p.l0] at h
  | k + 1 => by
    have ih0 := winnowerref01_halves_p.mono_l k
    · intro y0 y1 y2 y3 y4
      unfold winnowerref01_halves_p.l0
      repeat' first
      | (with_reducible exact ih0 _ _ _ _ _)
      | (with_reducible exact LeO.refl _)
      | (with_reducible exact LeO.none _)
      | (with_reducible refine LeO.ite ?_ ?_)
      | (with_reducible refine LeO.bind ?_ (fun _ => ?_))
      | exact ih0 _ _ _ _ _
      | exact LeO.none _
      | refine LeO.ite ?_ ?_
      | refine LeO.bind ?_ (fun _ => ?_)
theorem winnowerref01_halves_p.mono : ∀ a0 k, LeO (winnowerref01_halves_p.f k a0) (winnowerref01_halves_p.f (k + 1) a0) := by
  intro a0 k
  have ih0 := winnowerref01_halves_p.mono_l k
  unfold winnowerref01_halves_p.f
  repeat' first
      | (with_reducible exact ih0 _ _ _ _ _)
      | (with_reducible exact LeO.refl _)
      | (with_reducible exact LeO.none _)
      | (with_reducible refine LeO.ite ?_ ?_)
      | (with_reducible refine LeO.bind ?_ (fun _ => ?_))
      | exact ih0 _ _ _ _ _
      | exact LeO.none _
      | refine LeO.ite ?_ ?_
      | refine LeO.bind ?_ (fun _ => ?_)
set_option maxHeartbeats 8000000 in
set_option maxRecDepth 100000 in
theorem winnowerref01_halves_p.calls (k : Nat) (A0 : Option Addr) (c0 : Nat) (l0 : List Int) (r1 : Int) (r2 : Int) (w : World) (hr0 : Kd.C (Kd.int .u8) w A0 l0.length l0) (hc0 : l0.length ≤ c0) (h : winnowerref01_halves_p.f k l0 = some (r1, r2)) :
    Calls Try.prog 32 #[.slice A0 l0.length c0] w fun e w' => e = .returned (.tuple #[.int .i64 r1, .int .i64 r2]) ∧ Drawn0 w w' := by
  have HR0 := Aside0.mk hr0
  have HC0 := Aside0.mk hc0
  clear hr0 hc0
  have H : (if 0 < (l0.length : Int) then (winnowerref01_halves_p.l0 k l0 (wrap64 (Int.tdiv (wrap64 (Int.tmod (rd l0 0) 128)) 2)) (Int.tmod (wrap64 (rd l0 0)) 2) 64 1) else (none)) = some (r1, r2) := h
  clear h
  by_cases c2 : 0 < (l0.length : Int)
  · rw [if_pos c2] at H
    have c2b0 : decide (0 < (l0.length : Int)) = true := decide_eq_true c2
    have c2b1 : decide (0 < l0.length) = true := decide_eq_true (by omega)
    clear c2
    have H' := Aside0.mk H
    clear H
    have p198 : 0 ≤ (0 : Int) := (by omega)
    have q198 : 0 < (l0.length : Int) := of_decide_eq_true (by first | (with_reducible assumption) | assumption)
    obtain ⟨ad198, e198, hx198_0⟩ := Kd.at_int HR0.out 0 p198 q198
    cases e198
    have qi198 : (0 < l0.length) = True := eq_true (by omega)
    (try rw [show ((0 : Int)).toNat = 0 from rfl] at hx198_0)
    (try rw [Addr.add_zero'] at hx198_0)
    replace p198 := eq_true p198
    replace q198 := eq_true q198
    have p199 : 0 ≤ (0 : Int) := (by omega)
    have q199 : 0 < (l0.length : Int) := of_decide_eq_true (by first | (with_reducible assumption) | assumption)
    obtain ⟨ad199, e199, hx199_0⟩ := Kd.at_int HR0.out 0 p199 q199
    obtain rfl : ad198 = ad199 := (by injection e199)
    have qi199 : (0 < l0.length) = True := eq_true (by omega)
    (try rw [show ((0 : Int)).toNat = 0 from rfl] at hx199_0)
    (try rw [Addr.add_zero'] at hx199_0)
    replace p199 := eq_true p199
    replace q199 := eq_true q199
    go_enter Try.func32, Try.ntmps32
    go_wp2
    go_loopg [4, 6, 7] k (fun kq v4 v6 v7 w' => ∃ (x4_1 : Int) (x6_1 : Int) (x7_1 : Int), v4 = .int .i64 x4_1 ∧ v6 = .int .i64 x6_1 ∧ v7 = .int .i64 x7_1 ∧ Aside0 (winnowerref01_halves_p.l0 kq l0 x4_1 (Int.tmod (wrap64 (rd l0 0)) 2) x6_1 x7_1 = some (r1, r2)) ∧ Aside0 (kq ≤ k) ∧ Drawn0 w w')
    case atStart => exact ⟨(wrap64 (Int.tdiv (wrap64 (Int.tmod (rd l0 0) 128)) 2)), (64), (1), (by first | rfl | (simp; done) | (simp [*]; done)), (by first | rfl | (simp; done) | (simp [*]; done)), (by first | rfl | (simp; done) | (simp [*]; done)), H', ⟨Nat.le_refl _⟩, by repeat (first | exact Drawn0.refl _ | apply Drawn0.step)⟩
    case round =>
      clear H'
      try clear p1
      try clear q1
      try clear hx1
      try clear qi1
      try clear c2
      try clear c2b0
      try clear c2b1
      try clear p2
      try clear hx198_0
      try clear hx199_0
      try clear p198
      try clear p199
      try clear q198
      try clear q199
      obtain ⟨x4_1, x6_1, x7_1, rfl, rfl, rfl, HA, HK1, ⟨m1, rfl⟩⟩ := hrel
      cases gk with
      | zero => exact absurd HA.out (by simp [winnowerref01_halves_p.l0])
      | succ k1 =>
        have H := HA.out
        clear HA
        simp only [winnowerref01_halves_p.l0] at H
        by_cases c3 : x7_1 < (l0.length : Int)
        · rw [if_pos c3] at H
          have c3b0 : decide (x7_1 < (l0.length : Int)) = true := decide_eq_true c3
          clear c3
          by_cases c4 : 0 ≤ x7_1
          · rw [if_pos c4] at H
            have c4b0 : decide (0 ≤ x7_1) = true := decide_eq_true c4
            clear c4
            by_cases c5 : x7_1 < 9
            · rw [if_pos c5] at H
              have c5b0 : decide (x7_1 < 9) = true := decide_eq_true c5
              clear c5
              have H' := Aside0.mk H
              clear H
              have p200 : 0 ≤ (x7_1 : Int) := of_decide_eq_true (by first | (with_reducible assumption) | assumption)
              have q200 : x7_1 < (l0.length : Int) := of_decide_eq_true (by first | (with_reducible assumption) | assumption)
              obtain ⟨ad200, e200, hx200_0⟩ := Kd.at_int HR0.out x7_1 p200 q200
              obtain rfl : ad198 = ad200 := (by injection e200)
              replace p200 := eq_true p200
              replace q200 := eq_true q200
              go_wp2
              go_roundg k1
              case measure => have := HK1.out; omega
              case rel => exact ⟨(wrap64 (x4_1 + (wrap64 ((wrap64 (Int.tmod (rd l0 x7_1) 128)) * x6_1)))), (wrap64 (x6_1 * 128)), (wrap64 (x7_1 + 1)), (by first | rfl | (simp; done) | (simp [*]; done)), (by first | rfl | (simp; done) | (simp [*]; done)), (by first | rfl | (simp; done) | (simp [*]; done)), H', ⟨by have := HK1.out; omega⟩, by repeat (first | exact Drawn0.refl _ | apply Drawn0.step)⟩
            · rw [if_neg c5] at H
              have c5b0 : decide (x7_1 < 9) = false := decide_eq_false c5
              clear c5
              have H' := Aside0.mk H
              clear H
              have p200 : 0 ≤ (x7_1 : Int) := of_decide_eq_true (by first | (with_reducible assumption) | assumption)
              have q200 : x7_1 < (l0.length : Int) := of_decide_eq_true (by first | (with_reducible assumption) | assumption)
              obtain ⟨ad200, e200, hx200_0⟩ := Kd.at_int HR0.out x7_1 p200 q200
              obtain rfl : ad198 = ad200 := (by injection e200)
              replace p200 := eq_true p200
              replace q200 := eq_true q200
              go_wp2
              go_roundg k1
              case measure => have := HK1.out; omega
              case rel => exact ⟨(wrap64 (x4_1 + (wrap64 ((wrap64 (Int.tmod (rd l0 x7_1) 128)) * x6_1)))), (x6_1), (wrap64 (x7_1 + 1)), (by first | rfl | (simp; done) | (simp [*]; done)), (by first | rfl | (simp; done) | (simp [*]; done)), (by first | rfl | (simp; done) | (simp [*]; done)), H', ⟨by have := HK1.out; omega⟩, by repeat (first | exact Drawn0.refl _ | apply Drawn0.step)⟩
          · rw [if_neg c4] at H
            exact absurd H (by simp)
        · rw [if_neg c3] at H
          have c3b0 : decide (x7_1 < (l0.length : Int)) = false := decide_eq_false c3
          clear c3
          simp only [Option.some.injEq, Prod.mk.injEq] at H
          obtain ⟨rfl, rfl⟩ := H
          go_wp2
          go_ret2
          exact ⟨by first | rfl | (simp; done) | (simp [*]; done), by repeat (first | exact Drawn0.refl _ | apply Drawn0.step)⟩
  · rw [if_neg c2] at H
    exact absurd H (by simp)

end Go.Proofs.Ytafljcblglielaa.Q
