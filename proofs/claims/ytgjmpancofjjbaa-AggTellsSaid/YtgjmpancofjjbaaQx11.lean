/- The machine side of laws, written by wip/tools/myprint.py (the printer's way, with functions proved by hand put in); Lean checks it. -/
import Derived.Test.YtgjmpancofjjbaaQx0
namespace Go.Proofs.Ytgjmpancofjjbaa.Q
open Go.RowKit Go.Proofs.YtgjmpancofjjbaaW.PrintWords Go.Proofs.YtgjmpancofjjbaaW.PrintLast Go.Proofs.YtgjmpancofjjbaaW.PrintMore
attribute [local go_sem] max2_int min2_int max_two min_two max_three min_three max_four min_four   -- for this text's walks alone
set_option linter.unusedVariables false
set_option linter.unusedSimpArgs false

/-! ### winnowerref18_sum: function 19 -/
mutual
def winnowerref18_sum.l0 : Nat → List (S26) → List Int → Int → Option (Int × Bool)
  | 0, _, _, _ => none
  | k + 1, x0, x4, x5 => if x5 < (x0.length : Int) then (if 0 ≤ x5 then (if x4.length < 17592186044416 then (winnowerref18_sum.l0 k x0 (x4 ++ [(rd_T26 x0 x5).f1]) (wrap64 (x5 + 1))) else (none)) else (none)) else (winnowerref18_sum.l1 k x4 0)
def winnowerref18_sum.l1 : Nat → List Int → Int → Option (Int × Bool)
  | 0, _, _ => none
  | k + 1, x4, x6 => if (x4.length : Int) > 0 then (winnowerref18_sum.l2 k x4 x6 (-1) 0) else (some (x6, true))
def winnowerref18_sum.l2 : Nat → List Int → Int → Int → Int → Option (Int × Bool)
  | 0, _, _, _, _ => none
  | k + 1, x4, x6, x7, x8 => if x8 < (x4.length : Int) then (if 0 ≤ x8 then (if (rd x4 x8) ≥ 0 then (if x6 ≤ (wrap64 (9223372036854775807 - (rd x4 x8))) then (if x7 < 0 then (winnowerref18_sum.l2 k x4 x6 x8 (wrap64 (x8 + 1))) else (if ((decide ((rd x4 x8) < 0)) == (decide (x6 > 0))) = true then (winnowerref18_sum.l2 k x4 x6 x8 (wrap64 (x8 + 1))) else (winnowerref18_sum.l2 k x4 x6 x7 (wrap64 (x8 + 1))))) else (if (rd x4 x8) < 0 then (if x6 ≥ (wrap64 ((-9223372036854775808) - (rd x4 x8))) then (if x7 < 0 then (winnowerref18_sum.l2 k x4 x6 x8 (wrap64 (x8 + 1))) else (if ((decide ((rd x4 x8) < 0)) == (decide (x6 > 0))) = true then (winnowerref18_sum.l2 k x4 x6 x8 (wrap64 (x8 + 1))) else (winnowerref18_sum.l2 k x4 x6 x7 (wrap64 (x8 + 1))))) else (winnowerref18_sum.l2 k x4 x6 x7 (wrap64 (x8 + 1)))) else (winnowerref18_sum.l2 k x4 x6 x7 (wrap64 (x8 + 1))))) else (if (rd x4 x8) < 0 then (if x6 ≥ (wrap64 ((-9223372036854775808) - (rd x4 x8))) then (if x7 < 0 then (winnowerref18_sum.l2 k x4 x6 x8 (wrap64 (x8 + 1))) else (if ((decide ((rd x4 x8) < 0)) == (decide (x6 > 0))) = true then (winnowerref18_sum.l2 k x4 x6 x8 (wrap64 (x8 + 1))) else (winnowerref18_sum.l2 k x4 x6 x7 (wrap64 (x8 + 1))))) else (winnowerref18_sum.l2 k x4 x6 x7 (wrap64 (x8 + 1)))) else (winnowerref18_sum.l2 k x4 x6 x7 (wrap64 (x8 + 1))))) else (none)) else (if x7 < 0 then (some (0, false)) else (if 0 ≤ x7 then (if x7 < (x4.length : Int) then (if x7 ≤ (x4.length : Int) then ((some (x4.take (x7 : Int).toNat : List Int)).bind fun y168 => (if ([] : List Int).length + y168.length < 17592186044416 then ((some (([] : List Int) ++ y168 : List Int)).bind fun y172 => (if 0 ≤ (wrap64 (x7 + 1)) then (if (wrap64 (x7 + 1)) ≤ (x4.length : Int) then ((some (x4.drop ((wrap64 (x7 + 1)) : Int).toNat : List Int)).bind fun y175 => (if y172.length + y175.length < 17592186044416 then (winnowerref18_sum.l1 k (y172 ++ y175) (wrap64 (x6 + (rd x4 x7)))) else (none))) else (none)) else (none))) else (none))) else (none)) else (none)) else (none)))
end
def winnowerref18_sum.f (k : Nat) (l0 : List (S26)) : Option (Int × Bool) := winnowerref18_sum.l0 k l0 ([] : List Int) 0
theorem winnowerref18_sum.mono_l : ∀ k, (∀ y0 y1 y2, LeO (winnowerref18_sum.l0 k y0 y1 y2) (winnowerref18_sum.l0 (k + 1) y0 y1 y2)) ∧ (∀ y0 y1, LeO (winnowerref18_sum.l1 k y0 y1) (winnowerref18_sum.l1 (k + 1) y0 y1)) ∧ (∀ y0 y1 y2 y3, LeO (winnowerref18_sum.l2 k y0 y1 y2 y3) (winnowerref18_sum.l2 (k + 1) y0 y1 y2 y3))
  | 0 => ⟨fun _ _ _ r h => by simp [winnowerref18_sum.l0] at h, fun _ _ r h => by simp [winnowerref18_sum.l1] at h, fun _ _ _ _ r h => by simp [winnowerref18_sum.l2] at h⟩
  | k + 1 => by
    obtain ⟨ih0, ih1, ih2⟩ := winnowerref18_sum.mono_l k
    refine ⟨?_, ?_, ?_⟩
    · intro y0 y1 y2
      unfold winnowerref18_sum.l0
      repeat' first
      | (with_reducible exact ih0 _ _ _)
      | (with_reducible exact ih1 _ _)
      | (with_reducible exact ih2 _ _ _ _)
      | (with_reducible exact LeO.refl _)
      | (with_reducible exact LeO.none _)
      | (with_reducible refine LeO.ite ?_ ?_)
      | (with_reducible refine LeO.bind ?_ (fun _ => ?_))
      | exact ih0 _ _ _
      | exact ih1 _ _
      | exact ih2 _ _ _ _
      | exact LeO.none _
      | refine LeO.ite ?_ ?_
      | refine LeO.bind ?_ (fun _ => ?_)
    · intro y0 y1
      unfold winnowerref18_sum.l1
      repeat' first
      | (with_reducible exact ih0 _ _ _)
      | (with_reducible exact ih1 _ _)
      | (with_reducible exact ih2 _ _ _ _)
      | (with_reducible exact LeO.refl _)
      | (with_reducible exact LeO.none _)
      | (with_reducible refine LeO.ite ?_ ?_)
      | (with_reducible refine LeO.bind ?_ (fun _ => ?_))
      | exact ih0 _ _ _
      | exact ih1 _ _
      | exact ih2 _ _ _ _
      | exact LeO.none _
      | refine LeO.ite ?_ ?_
      | refine LeO.bind ?_ (fun _ => ?_)
    · intro y0 y1 y2 y3
      unfold winnowerref18_sum.l2
      repeat' first
      | (with_reducible exact ih0 _ _ _)
      | (with_reducible exact ih1 _ _)
      | (with_reducible exact ih2 _ _ _ _)
      | (with_reducible exact LeO.refl _)
      | (with_reducible exact LeO.none _)
      | (with_reducible refine LeO.ite ?_ ?_)
      | (with_reducible refine LeO.bind ?_ (fun _ => ?_))
      | exact ih0 _ _ _
      | exact ih1 _ _
      | exact ih2 _ _ _ _
      | exact LeO.none _
      | refine LeO.ite ?_ ?_
      | refine LeO.bind ?_ (fun _ => ?_)
theorem winnowerref18_sum.mono : ∀ a0 k, LeO (winnowerref18_sum.f k a0) (winnowerref18_sum.f (k + 1) a0) := by
  intro a0 k
  obtain ⟨ih0, ih1, ih2⟩ := winnowerref18_sum.mono_l k
  unfold winnowerref18_sum.f
  repeat' first
      | (with_reducible exact ih0 _ _ _)
      | (with_reducible exact ih1 _ _)
      | (with_reducible exact ih2 _ _ _ _)
      | (with_reducible exact LeO.refl _)
      | (with_reducible exact LeO.none _)
      | (with_reducible refine LeO.ite ?_ ?_)
      | (with_reducible refine LeO.bind ?_ (fun _ => ?_))
      | exact ih0 _ _ _
      | exact ih1 _ _
      | exact ih2 _ _ _ _
      | exact LeO.none _
      | refine LeO.ite ?_ ?_
      | refine LeO.bind ?_ (fun _ => ?_)
set_option maxHeartbeats 8000000 in
set_option maxRecDepth 100000 in
theorem winnowerref18_sum.calls (k : Nat) (A0 : Option Addr) (c0 : Nat) (l0 : List (S26)) (r1 : Int) (r2 : Bool) (w : World) (hr0 : Kd.C k26 w A0 l0.length l0) (hc0 : l0.length ≤ c0) (h : winnowerref18_sum.f k l0 = some (r1, r2)) :
    Calls Try.prog 19 #[.slice A0 l0.length c0] w fun e w' => e = .returned (.tuple #[.int .i64 r1, .bool r2]) ∧ Below w.heap.size w w' := by
  have HR0 := Aside0.mk hr0
  have HC0 := Aside0.mk hc0
  clear hr0 hc0
  have HB := Aside0.mk (Below.refl w.heap.size w)
  have H : (winnowerref18_sum.l0 k l0 ([] : List Int) 0) = some (r1, r2) := h
  clear h
  have H' := Aside0.mk H
  clear H
  go_enter Try.func19, Try.ntmps19
  go_wp2
  go_loopg [4, 5] k (fun kq v4 v5 w' => ∃ (x4_1 : List Int) (x5_1 : Int), v5 = .int .i64 x5_1 ∧ Aside0 (winnowerref18_sum.l0 kq l0 x4_1 x5_1 = some (r1, r2)) ∧ Aside0 (kq ≤ k) ∧ Aside0 (Kd.R (Kd.int .i64) 3 w' w.heap.size (fun _ => True) v4 x4_1) ∧ Aside0 (Below w.heap.size w w'))
  case atStart => exact ⟨(([] : List Int)), (0), (by first | rfl | (simp; done) | (simp [*]; done)), H', ⟨Nat.le_refl _⟩, ⟨by first | exact Kd.R_nil _ _ _ _ _ | exact Kd.N_nil _ _ _ _ _ | exact Kd.V_nil _ _ _ _ _ | exact Kd.Q_nil _ _ _ _ _ | exact Kd.S_nil _ _ _ _ _⟩, ⟨by repeat (first | (with_reducible first | exact HB.out | apply below_alloc | apply pw_below_drewN | apply below_drew1) | exact HB.out)⟩⟩
  case round =>
    clear H'
    try clear c1
    obtain ⟨x4_1, x5_1, rfl, HA, HK1, HO_4, HB⟩ := hrel
    cases gk with
    | zero => exact absurd HA.out (by simp [winnowerref18_sum.l0])
    | succ k1 =>
      have H := HA.out
      clear HA
      simp only [winnowerref18_sum.l0] at H
      by_cases c2 : x5_1 < (l0.length : Int)
      · rw [if_pos c2] at H
        have c2b0 : decide (x5_1 < (l0.length : Int)) = true := decide_eq_true c2
        clear c2
        by_cases c3 : 0 ≤ x5_1
        · rw [if_pos c3] at H
          have c3b0 : decide (0 ≤ x5_1) = true := decide_eq_true c3
          clear c3
          by_cases c4 : x4_1.length < 17592186044416
          · rw [if_pos c4] at H
            have LMc4 := Aside0.mk c4
            clear c4
            obtain ⟨y155, hy155⟩ : ∃ y_ : List Int, y_ = (x4_1 ++ [(rd_T26 l0 x5_1).f1]) := ⟨_, rfl⟩
            replace H : (winnowerref18_sum.l0 k1 l0 y155 (wrap64 (x5_1 + 1))) = some (r1, r2) := by first | (rw [hy155]; with_reducible exact H) | (have H2_ := (Option.bind_some _ _).symm.trans H; rw [hy155]; with_reducible exact H2_) | (have H2_ := (Option.bind_some _ _).symm.trans H; with_reducible exact H2_) | with_reducible exact H | (rw [hy155]; exact H) | exact H
            have Ny155 := Aside0.mk hy155
            clear hy155
            have H' := Aside0.mk H
            clear H
            have p154 : 0 ≤ (x5_1 : Int) := of_decide_eq_true (by first | (with_reducible assumption) | assumption)
            have q154 : x5_1 < (l0.length : Int) := of_decide_eq_true (by first | (with_reducible assumption) | assumption)
            obtain ⟨ad154, e154, hx154_0, hx154_1, hx154_2, hx154_3⟩ := at_T26 HR0.out x5_1 p154 q154
            cases e154
            replace hx154_0 := (HB.out.cell (World.block_lt_of_cell? w _ hx154_0)).trans hx154_0
            replace hx154_1 := (HB.out.cell (World.block_lt_of_cell? w _ hx154_1)).trans hx154_1
            replace hx154_2 := (HB.out.cell (World.block_lt_of_cell? w _ hx154_2)).trans hx154_2
            replace hx154_3 := (HB.out.cell (World.block_lt_of_cell? w _ hx154_3)).trans hx154_3
            replace p154 := eq_true p154
            replace q154 := eq_true q154
            go_wp2_with (first | ((with_reducible refine gate_builtin (b := .append) (xs := #[.tmp 17, .tmp 23]) rfl ?_); at_builtin; refine Kd.R_append (Kd.int .i64) (w0 := w) w.heap.size rfl (.tmp 17) (.tmp 23) 61 3 (.int .i64 0) 8 rfl Try.underlying61 info3 rfl (by decide) (by omega) u4 x4_1 ((rd_T26 l0 x5_1).f1) [.int .i64 ((rd_T26 l0 x5_1).f1)] (fun _ => True) (fun _ => False) rfl rfl ?aP (fun _ hk => hk.elim) ?aF ?aO ?aB ?aS ?aL ?_; (case aP => exact rfl); (case aB => exact (by repeat (first | (with_reducible first | exact HB.out | apply below_alloc | apply pw_below_drewN | apply below_drew1) | exact HB.out))); (case aF => exact (fun _ _ => trivial)); (case aO => exact (by (with_reducible repeat (first | apply Kd.R_alloc | apply Kd.R_drewN | apply Kd.R_drew)); exact HO_4.out)); (case aS => exact (below_size (by repeat (first | (with_reducible first | exact HB.out | apply below_alloc | apply pw_below_drewN | apply below_drew1) | exact HB.out)))); (case aL => have := LMc4.out; omega); intro v156 w5 ho hb hg hat; rw [← Ny155.out] at ho; have n0_ := Aside0.mk (hb); have n1_ := Aside0.mk (ho); clear HB; clear HO_4; have HB := n0_; have HO157 := n1_; clear n0_ n1_; clear ho hb hg hat))
            go_roundg k1
            case measure => have := HK1.out; omega
            case rel => exact ⟨(y155), (wrap64 (x5_1 + 1)), (by first | rfl | (simp; done) | (simp [*]; done)), H', ⟨by have := HK1.out; omega⟩, ⟨by (with_reducible repeat (first | apply Kd.R_alloc | apply Kd.R_drewN | apply Kd.R_drew)); exact HO157.out⟩, ⟨by repeat (first | (with_reducible first | exact HB.out | apply below_alloc | apply pw_below_drewN | apply below_drew1) | exact HB.out)⟩⟩
          · rw [if_neg c4] at H
            exact absurd H (by simp)
        · rw [if_neg c3] at H
          exact absurd H (by simp)
      · rw [if_neg c2] at H
        have c2b0 : decide (x5_1 < (l0.length : Int)) = false := decide_eq_false c2
        clear c2
        have H' := Aside0.mk H
        clear H
        go_wp2
        go_loopg [4, 6] k1 (fun kq v4 v6 w' => ∃ (x4_2 : List Int) (x6_2 : Int), v6 = .int .i64 x6_2 ∧ Aside0 (winnowerref18_sum.l1 kq x4_2 x6_2 = some (r1, r2)) ∧ Aside0 (kq ≤ k1) ∧ Aside0 (Kd.R (Kd.int .i64) 3 w' w.heap.size (fun _ => True) v4 x4_2) ∧ Aside0 (Below w.heap.size w w'))
        case atStart => exact ⟨(x4_1), (0), (by first | rfl | (simp; done) | (simp [*]; done)), H', ⟨Nat.le_refl _⟩, ⟨by (with_reducible repeat (first | apply Kd.R_alloc | apply Kd.R_drewN | apply Kd.R_drew)); exact HO_4.out⟩, ⟨by repeat (first | (with_reducible first | exact HB.out | apply below_alloc | apply pw_below_drewN | apply below_drew1) | exact HB.out)⟩⟩
        case round =>
          clear H'
          try clear c1
          try clear p1
          try clear q1
          try clear hx1
          try clear c2
          try clear c2b0
          try clear p2
          try clear c3
          try clear c3b0
          try clear c4
          try clear hx154_0
          try clear hx154_1
          try clear hx154_2
          try clear hx154_3
          try clear p154
          try clear q154
          obtain ⟨x4_2, x6_2, rfl, HA, HK2, HO_4, HB⟩ := hrel
          cases gk with
          | zero => exact absurd HA.out (by simp [winnowerref18_sum.l1])
          | succ k2 =>
            have H := HA.out
            clear HA
            simp only [winnowerref18_sum.l1] at H
            by_cases c6 : (x4_2.length : Int) > 0
            · rw [if_pos c6] at H
              have c6b0 : decide (0 < (x4_2.length : Int)) = true := decide_eq_true c6
              have c6b1 : decide (0 < x4_2.length) = true := decide_eq_true (by omega)
              clear c6
              have H' := Aside0.mk H
              clear H
              obtain ⟨Ao7, co7, eo7⟩ := Kd.R_slice HO_4.out
              subst eo7
              go_wp2
              go_loopg [7, 8] k2 (fun kq v7 v8 w' => ∃ (x7_3 : Int) (x8_3 : Int), v7 = .int .i64 x7_3 ∧ v8 = .int .i64 x8_3 ∧ Aside0 (winnowerref18_sum.l2 kq x4_2 x6_2 x7_3 x8_3 = some (r1, r2)) ∧ Aside0 (kq ≤ k2) ∧ Aside0 (Kd.R (Kd.int .i64) 3 w' w.heap.size (fun _ => True) (.slice Ao7 x4_2.length co7) x4_2) ∧ Aside0 (Below w.heap.size w w'))
              case atStart => exact ⟨((-1)), (0), (by first | rfl | (simp; done) | (simp [*]; done)), (by first | rfl | (simp; done) | (simp [*]; done)), H', ⟨Nat.le_refl _⟩, ⟨by (with_reducible repeat (first | apply Kd.R_alloc | apply Kd.R_drewN | apply Kd.R_drew)); exact HO_4.out⟩, ⟨by repeat (first | (with_reducible first | exact HB.out | apply below_alloc | apply pw_below_drewN | apply below_drew1) | exact HB.out)⟩⟩
              case round =>
                clear H'
                try clear c1
                try clear p1
                try clear q1
                try clear hx1
                try clear c2
                try clear c2b0
                try clear p2
                try clear c3
                try clear c3b0
                try clear c4
                try clear c6
                try clear c6b0
                try clear c6b1
                try clear p6
                try clear hx154_0
                try clear hx154_1
                try clear hx154_2
                try clear hx154_3
                try clear p1
                try clear p154
                try clear p2
                try clear q1
                try clear q154
                obtain ⟨x7_3, x8_3, rfl, rfl, HA, HK3, HO_4, HB⟩ := hrel
                cases gk with
                | zero => exact absurd HA.out (by simp [winnowerref18_sum.l2])
                | succ k3 =>
                  have H := HA.out
                  clear HA
                  simp only [winnowerref18_sum.l2] at H
                  by_cases c8 : x8_3 < (x4_2.length : Int)
                  · rw [if_pos c8] at H
                    have c8b0 : decide (x8_3 < (x4_2.length : Int)) = true := decide_eq_true c8
                    clear c8
                    by_cases c9 : 0 ≤ x8_3
                    · rw [if_pos c9] at H
                      have c9b0 : decide (0 ≤ x8_3) = true := decide_eq_true c9
                      clear c9
                      by_cases c10 : (rd x4_2 x8_3) ≥ 0
                      · rw [if_pos c10] at H
                        have c10b0 : decide (0 ≤ (rd x4_2 x8_3)) = true := decide_eq_true c10
                        clear c10
                        by_cases c11 : x6_2 ≤ (wrap64 (9223372036854775807 - (rd x4_2 x8_3)))
                        · rw [if_pos c11] at H
                          have c11b0 : decide (x6_2 ≤ (wrap64 (9223372036854775807 - (rd x4_2 x8_3)))) = true := decide_eq_true c11
                          clear c11
                          by_cases c12 : x7_3 < 0
                          · rw [if_pos c12] at H
                            have c12b0 : decide (x7_3 < 0) = true := decide_eq_true c12
                            clear c12
                            have H' := Aside0.mk H
                            clear H
                            have p158 : 0 ≤ (x8_3 : Int) := of_decide_eq_true (by first | (with_reducible assumption) | assumption)
                            have q158 : x8_3 < (x4_2.length : Int) := of_decide_eq_true (by first | (with_reducible assumption) | assumption)
                            obtain ⟨ad158, e158, hx158_0⟩ := Kd.at_int (Kd.R_reads' HO_4.out).2.2 x8_3 p158 q158
                            cases e158
                            replace p158 := eq_true p158
                            replace q158 := eq_true q158
                            have p159 : 0 ≤ (x8_3 : Int) := of_decide_eq_true (by first | (with_reducible assumption) | assumption)
                            have q159 : x8_3 < (x4_2.length : Int) := of_decide_eq_true (by first | (with_reducible assumption) | assumption)
                            obtain ⟨ad159, e159, hx159_0⟩ := Kd.at_int (Kd.R_reads' HO_4.out).2.2 x8_3 p159 q159
                            obtain rfl : ad158 = ad159 := (by injection e159)
                            replace p159 := eq_true p159
                            replace q159 := eq_true q159
                            go_wp2
                            go_roundg k3
                            case measure => have := HK1.out; have := HK2.out; have := HK3.out; omega
                            case rel => exact ⟨(x8_3), (wrap64 (x8_3 + 1)), (by first | rfl | (simp; done) | (simp [*]; done)), (by first | rfl | (simp; done) | (simp [*]; done)), H', ⟨by have := HK1.out; have := HK2.out; have := HK3.out; omega⟩, ⟨by (with_reducible repeat (first | apply Kd.R_alloc | apply Kd.R_drewN | apply Kd.R_drew)); exact HO_4.out⟩, ⟨by repeat (first | (with_reducible first | exact HB.out | apply below_alloc | apply pw_below_drewN | apply below_drew1) | exact HB.out)⟩⟩
                          · rw [if_neg c12] at H
                            have c12b0 : decide (x7_3 < 0) = false := decide_eq_false c12
                            clear c12
                            by_cases c13 : ((decide ((rd x4_2 x8_3) < 0)) == (decide (x6_2 > 0))) = true
                            · rw [if_pos c13] at H
                              have c13b0 : ((decide ((rd x4_2 x8_3) < 0)) == (decide (x6_2 > 0))) = true := c13
                              (try (have c13q : 0 < x6_2 := (by (have h_ := c13b0; rw [(show decide ((rd x4_2 x8_3) < 0) = true by assumption)] at h_; simpa using h_)); have c13r : decide (0 < x6_2) = true := decide_eq_true c13q))
                              (try (have c13b1 : decide ((decide ((rd x4_2 x8_3) < 0)) = (decide (x6_2 > 0))) = true := by simpa using c13))
                              (try (have c13b2 : ((decide ((rd x4_2 x8_3) < 0)) == (decide (x6_2 > 0))) = true := by simpa using c13))
                              clear c13
                              have H' := Aside0.mk H
                              clear H
                              have p158 : 0 ≤ (x8_3 : Int) := of_decide_eq_true (by first | (with_reducible assumption) | assumption)
                              have q158 : x8_3 < (x4_2.length : Int) := of_decide_eq_true (by first | (with_reducible assumption) | assumption)
                              obtain ⟨ad158, e158, hx158_0⟩ := Kd.at_int (Kd.R_reads' HO_4.out).2.2 x8_3 p158 q158
                              cases e158
                              replace p158 := eq_true p158
                              replace q158 := eq_true q158
                              have p159 : 0 ≤ (x8_3 : Int) := of_decide_eq_true (by first | (with_reducible assumption) | assumption)
                              have q159 : x8_3 < (x4_2.length : Int) := of_decide_eq_true (by first | (with_reducible assumption) | assumption)
                              obtain ⟨ad159, e159, hx159_0⟩ := Kd.at_int (Kd.R_reads' HO_4.out).2.2 x8_3 p159 q159
                              obtain rfl : ad158 = ad159 := (by injection e159)
                              replace p159 := eq_true p159
                              replace q159 := eq_true q159
                              have p160 : 0 ≤ (x8_3 : Int) := of_decide_eq_true (by first | (with_reducible assumption) | assumption)
                              have q160 : x8_3 < (x4_2.length : Int) := of_decide_eq_true (by first | (with_reducible assumption) | assumption)
                              obtain ⟨ad160, e160, hx160_0⟩ := Kd.at_int (Kd.R_reads' HO_4.out).2.2 x8_3 p160 q160
                              obtain rfl : ad158 = ad160 := (by injection e160)
                              replace p160 := eq_true p160
                              replace q160 := eq_true q160
                              go_wp2
                              go_roundg k3
                              case measure => have := HK1.out; have := HK2.out; have := HK3.out; omega
                              case rel => exact ⟨(x8_3), (wrap64 (x8_3 + 1)), (by first | rfl | (simp; done) | (simp [*]; done)), (by first | rfl | (simp; done) | (simp [*]; done)), H', ⟨by have := HK1.out; have := HK2.out; have := HK3.out; omega⟩, ⟨by (with_reducible repeat (first | apply Kd.R_alloc | apply Kd.R_drewN | apply Kd.R_drew)); exact HO_4.out⟩, ⟨by repeat (first | (with_reducible first | exact HB.out | apply below_alloc | apply pw_below_drewN | apply below_drew1) | exact HB.out)⟩⟩
                            · rw [if_neg c13] at H
                              have c13b0 : ((decide ((rd x4_2 x8_3) < 0)) == (decide (x6_2 > 0))) = false := by simpa using c13
                              (try (have c13q : ¬ (0 < x6_2) := (by (have h_ := c13b0; rw [(show decide ((rd x4_2 x8_3) < 0) = true by assumption)] at h_; simpa using h_)); have c13r : decide (0 < x6_2) = false := decide_eq_false c13q))
                              (try (have c13b1 : decide ((decide ((rd x4_2 x8_3) < 0)) = (decide (x6_2 > 0))) = false := by simpa using c13))
                              (try (have c13b2 : ((decide ((rd x4_2 x8_3) < 0)) == (decide (x6_2 > 0))) = false := by simpa using c13))
                              (try (have c13b3 : ¬ ((decide ((rd x4_2 x8_3) < 0)) = (decide (x6_2 > 0))) := by simpa using c13))
                              clear c13
                              have H' := Aside0.mk H
                              clear H
                              have p158 : 0 ≤ (x8_3 : Int) := of_decide_eq_true (by first | (with_reducible assumption) | assumption)
                              have q158 : x8_3 < (x4_2.length : Int) := of_decide_eq_true (by first | (with_reducible assumption) | assumption)
                              obtain ⟨ad158, e158, hx158_0⟩ := Kd.at_int (Kd.R_reads' HO_4.out).2.2 x8_3 p158 q158
                              cases e158
                              replace p158 := eq_true p158
                              replace q158 := eq_true q158
                              have p159 : 0 ≤ (x8_3 : Int) := of_decide_eq_true (by first | (with_reducible assumption) | assumption)
                              have q159 : x8_3 < (x4_2.length : Int) := of_decide_eq_true (by first | (with_reducible assumption) | assumption)
                              obtain ⟨ad159, e159, hx159_0⟩ := Kd.at_int (Kd.R_reads' HO_4.out).2.2 x8_3 p159 q159
                              obtain rfl : ad158 = ad159 := (by injection e159)
                              replace p159 := eq_true p159
                              replace q159 := eq_true q159
                              have p160 : 0 ≤ (x8_3 : Int) := of_decide_eq_true (by first | (with_reducible assumption) | assumption)
                              have q160 : x8_3 < (x4_2.length : Int) := of_decide_eq_true (by first | (with_reducible assumption) | assumption)
                              obtain ⟨ad160, e160, hx160_0⟩ := Kd.at_int (Kd.R_reads' HO_4.out).2.2 x8_3 p160 q160
                              obtain rfl : ad158 = ad160 := (by injection e160)
                              replace p160 := eq_true p160
                              replace q160 := eq_true q160
                              go_wp2
                              go_roundg k3
                              case measure => have := HK1.out; have := HK2.out; have := HK3.out; omega
                              case rel => exact ⟨(x7_3), (wrap64 (x8_3 + 1)), (by first | rfl | (simp; done) | (simp [*]; done)), (by first | rfl | (simp; done) | (simp [*]; done)), H', ⟨by have := HK1.out; have := HK2.out; have := HK3.out; omega⟩, ⟨by (with_reducible repeat (first | apply Kd.R_alloc | apply Kd.R_drewN | apply Kd.R_drew)); exact HO_4.out⟩, ⟨by repeat (first | (with_reducible first | exact HB.out | apply below_alloc | apply pw_below_drewN | apply below_drew1) | exact HB.out)⟩⟩
                        · rw [if_neg c11] at H
                          have c11b0 : decide (x6_2 ≤ (wrap64 (9223372036854775807 - (rd x4_2 x8_3)))) = false := decide_eq_false c11
                          clear c11
                          by_cases c14 : (rd x4_2 x8_3) < 0
                          · rw [if_pos c14] at H
                            have c14b0 : decide ((rd x4_2 x8_3) < 0) = true := decide_eq_true c14
                            clear c14
                            by_cases c15 : x6_2 ≥ (wrap64 ((-9223372036854775808) - (rd x4_2 x8_3)))
                            · rw [if_pos c15] at H
                              have c15b0 : decide ((wrap64 ((-9223372036854775808) - (rd x4_2 x8_3))) ≤ x6_2) = true := decide_eq_true c15
                              clear c15
                              by_cases c16 : x7_3 < 0
                              · rw [if_pos c16] at H
                                have c16b0 : decide (x7_3 < 0) = true := decide_eq_true c16
                                clear c16
                                have H' := Aside0.mk H
                                clear H
                                have p158 : 0 ≤ (x8_3 : Int) := of_decide_eq_true (by first | (with_reducible assumption) | assumption)
                                have q158 : x8_3 < (x4_2.length : Int) := of_decide_eq_true (by first | (with_reducible assumption) | assumption)
                                obtain ⟨ad158, e158, hx158_0⟩ := Kd.at_int (Kd.R_reads' HO_4.out).2.2 x8_3 p158 q158
                                cases e158
                                replace p158 := eq_true p158
                                replace q158 := eq_true q158
                                have p159 : 0 ≤ (x8_3 : Int) := of_decide_eq_true (by first | (with_reducible assumption) | assumption)
                                have q159 : x8_3 < (x4_2.length : Int) := of_decide_eq_true (by first | (with_reducible assumption) | assumption)
                                obtain ⟨ad159, e159, hx159_0⟩ := Kd.at_int (Kd.R_reads' HO_4.out).2.2 x8_3 p159 q159
                                obtain rfl : ad158 = ad159 := (by injection e159)
                                replace p159 := eq_true p159
                                replace q159 := eq_true q159
                                have p161 : 0 ≤ (x8_3 : Int) := of_decide_eq_true (by first | (with_reducible assumption) | assumption)
                                have q161 : x8_3 < (x4_2.length : Int) := of_decide_eq_true (by first | (with_reducible assumption) | assumption)
                                obtain ⟨ad161, e161, hx161_0⟩ := Kd.at_int (Kd.R_reads' HO_4.out).2.2 x8_3 p161 q161
                                obtain rfl : ad158 = ad161 := (by injection e161)
                                replace p161 := eq_true p161
                                replace q161 := eq_true q161
                                have p162 : 0 ≤ (x8_3 : Int) := of_decide_eq_true (by first | (with_reducible assumption) | assumption)
                                have q162 : x8_3 < (x4_2.length : Int) := of_decide_eq_true (by first | (with_reducible assumption) | assumption)
                                obtain ⟨ad162, e162, hx162_0⟩ := Kd.at_int (Kd.R_reads' HO_4.out).2.2 x8_3 p162 q162
                                obtain rfl : ad158 = ad162 := (by injection e162)
                                replace p162 := eq_true p162
                                replace q162 := eq_true q162
                                go_wp2
                                go_roundg k3
                                case measure => have := HK1.out; have := HK2.out; have := HK3.out; omega
                                case rel => exact ⟨(x8_3), (wrap64 (x8_3 + 1)), (by first | rfl | (simp; done) | (simp [*]; done)), (by first | rfl | (simp; done) | (simp [*]; done)), H', ⟨by have := HK1.out; have := HK2.out; have := HK3.out; omega⟩, ⟨by (with_reducible repeat (first | apply Kd.R_alloc | apply Kd.R_drewN | apply Kd.R_drew)); exact HO_4.out⟩, ⟨by repeat (first | (with_reducible first | exact HB.out | apply below_alloc | apply pw_below_drewN | apply below_drew1) | exact HB.out)⟩⟩
                              · rw [if_neg c16] at H
                                have c16b0 : decide (x7_3 < 0) = false := decide_eq_false c16
                                clear c16
                                by_cases c17 : ((decide ((rd x4_2 x8_3) < 0)) == (decide (x6_2 > 0))) = true
                                · rw [if_pos c17] at H
                                  have c17b0 : ((decide ((rd x4_2 x8_3) < 0)) == (decide (x6_2 > 0))) = true := c17
                                  (try (have c17q : 0 < x6_2 := (by (have h_ := c17b0; rw [(show decide ((rd x4_2 x8_3) < 0) = true by assumption)] at h_; simpa using h_)); have c17r : decide (0 < x6_2) = true := decide_eq_true c17q))
                                  (try (have c17b1 : decide ((decide ((rd x4_2 x8_3) < 0)) = (decide (x6_2 > 0))) = true := by simpa using c17))
                                  (try (have c17b2 : ((decide ((rd x4_2 x8_3) < 0)) == (decide (x6_2 > 0))) = true := by simpa using c17))
                                  clear c17
                                  have H' := Aside0.mk H
                                  clear H
                                  have p158 : 0 ≤ (x8_3 : Int) := of_decide_eq_true (by first | (with_reducible assumption) | assumption)
                                  have q158 : x8_3 < (x4_2.length : Int) := of_decide_eq_true (by first | (with_reducible assumption) | assumption)
                                  obtain ⟨ad158, e158, hx158_0⟩ := Kd.at_int (Kd.R_reads' HO_4.out).2.2 x8_3 p158 q158
                                  cases e158
                                  replace p158 := eq_true p158
                                  replace q158 := eq_true q158
                                  have p159 : 0 ≤ (x8_3 : Int) := of_decide_eq_true (by first | (with_reducible assumption) | assumption)
                                  have q159 : x8_3 < (x4_2.length : Int) := of_decide_eq_true (by first | (with_reducible assumption) | assumption)
                                  obtain ⟨ad159, e159, hx159_0⟩ := Kd.at_int (Kd.R_reads' HO_4.out).2.2 x8_3 p159 q159
                                  obtain rfl : ad158 = ad159 := (by injection e159)
                                  replace p159 := eq_true p159
                                  replace q159 := eq_true q159
                                  have p161 : 0 ≤ (x8_3 : Int) := of_decide_eq_true (by first | (with_reducible assumption) | assumption)
                                  have q161 : x8_3 < (x4_2.length : Int) := of_decide_eq_true (by first | (with_reducible assumption) | assumption)
                                  obtain ⟨ad161, e161, hx161_0⟩ := Kd.at_int (Kd.R_reads' HO_4.out).2.2 x8_3 p161 q161
                                  obtain rfl : ad158 = ad161 := (by injection e161)
                                  replace p161 := eq_true p161
                                  replace q161 := eq_true q161
                                  have p162 : 0 ≤ (x8_3 : Int) := of_decide_eq_true (by first | (with_reducible assumption) | assumption)
                                  have q162 : x8_3 < (x4_2.length : Int) := of_decide_eq_true (by first | (with_reducible assumption) | assumption)
                                  obtain ⟨ad162, e162, hx162_0⟩ := Kd.at_int (Kd.R_reads' HO_4.out).2.2 x8_3 p162 q162
                                  obtain rfl : ad158 = ad162 := (by injection e162)
                                  replace p162 := eq_true p162
                                  replace q162 := eq_true q162
                                  have p163 : 0 ≤ (x8_3 : Int) := of_decide_eq_true (by first | (with_reducible assumption) | assumption)
                                  have q163 : x8_3 < (x4_2.length : Int) := of_decide_eq_true (by first | (with_reducible assumption) | assumption)
                                  obtain ⟨ad163, e163, hx163_0⟩ := Kd.at_int (Kd.R_reads' HO_4.out).2.2 x8_3 p163 q163
                                  obtain rfl : ad158 = ad163 := (by injection e163)
                                  replace p163 := eq_true p163
                                  replace q163 := eq_true q163
                                  go_wp2
                                  go_roundg k3
                                  case measure => have := HK1.out; have := HK2.out; have := HK3.out; omega
                                  case rel => exact ⟨(x8_3), (wrap64 (x8_3 + 1)), (by first | rfl | (simp; done) | (simp [*]; done)), (by first | rfl | (simp; done) | (simp [*]; done)), H', ⟨by have := HK1.out; have := HK2.out; have := HK3.out; omega⟩, ⟨by (with_reducible repeat (first | apply Kd.R_alloc | apply Kd.R_drewN | apply Kd.R_drew)); exact HO_4.out⟩, ⟨by repeat (first | (with_reducible first | exact HB.out | apply below_alloc | apply pw_below_drewN | apply below_drew1) | exact HB.out)⟩⟩
                                · rw [if_neg c17] at H
                                  have c17b0 : ((decide ((rd x4_2 x8_3) < 0)) == (decide (x6_2 > 0))) = false := by simpa using c17
                                  (try (have c17q : ¬ (0 < x6_2) := (by (have h_ := c17b0; rw [(show decide ((rd x4_2 x8_3) < 0) = true by assumption)] at h_; simpa using h_)); have c17r : decide (0 < x6_2) = false := decide_eq_false c17q))
                                  (try (have c17b1 : decide ((decide ((rd x4_2 x8_3) < 0)) = (decide (x6_2 > 0))) = false := by simpa using c17))
                                  (try (have c17b2 : ((decide ((rd x4_2 x8_3) < 0)) == (decide (x6_2 > 0))) = false := by simpa using c17))
                                  (try (have c17b3 : ¬ ((decide ((rd x4_2 x8_3) < 0)) = (decide (x6_2 > 0))) := by simpa using c17))
                                  clear c17
                                  have H' := Aside0.mk H
                                  clear H
                                  have p158 : 0 ≤ (x8_3 : Int) := of_decide_eq_true (by first | (with_reducible assumption) | assumption)
                                  have q158 : x8_3 < (x4_2.length : Int) := of_decide_eq_true (by first | (with_reducible assumption) | assumption)
                                  obtain ⟨ad158, e158, hx158_0⟩ := Kd.at_int (Kd.R_reads' HO_4.out).2.2 x8_3 p158 q158
                                  cases e158
                                  replace p158 := eq_true p158
                                  replace q158 := eq_true q158
                                  have p159 : 0 ≤ (x8_3 : Int) := of_decide_eq_true (by first | (with_reducible assumption) | assumption)
                                  have q159 : x8_3 < (x4_2.length : Int) := of_decide_eq_true (by first | (with_reducible assumption) | assumption)
                                  obtain ⟨ad159, e159, hx159_0⟩ := Kd.at_int (Kd.R_reads' HO_4.out).2.2 x8_3 p159 q159
                                  obtain rfl : ad158 = ad159 := (by injection e159)
                                  replace p159 := eq_true p159
                                  replace q159 := eq_true q159
                                  have p161 : 0 ≤ (x8_3 : Int) := of_decide_eq_true (by first | (with_reducible assumption) | assumption)
                                  have q161 : x8_3 < (x4_2.length : Int) := of_decide_eq_true (by first | (with_reducible assumption) | assumption)
                                  obtain ⟨ad161, e161, hx161_0⟩ := Kd.at_int (Kd.R_reads' HO_4.out).2.2 x8_3 p161 q161
                                  obtain rfl : ad158 = ad161 := (by injection e161)
                                  replace p161 := eq_true p161
                                  replace q161 := eq_true q161
                                  have p162 : 0 ≤ (x8_3 : Int) := of_decide_eq_true (by first | (with_reducible assumption) | assumption)
                                  have q162 : x8_3 < (x4_2.length : Int) := of_decide_eq_true (by first | (with_reducible assumption) | assumption)
                                  obtain ⟨ad162, e162, hx162_0⟩ := Kd.at_int (Kd.R_reads' HO_4.out).2.2 x8_3 p162 q162
                                  obtain rfl : ad158 = ad162 := (by injection e162)
                                  replace p162 := eq_true p162
                                  replace q162 := eq_true q162
                                  have p163 : 0 ≤ (x8_3 : Int) := of_decide_eq_true (by first | (with_reducible assumption) | assumption)
                                  have q163 : x8_3 < (x4_2.length : Int) := of_decide_eq_true (by first | (with_reducible assumption) | assumption)
                                  obtain ⟨ad163, e163, hx163_0⟩ := Kd.at_int (Kd.R_reads' HO_4.out).2.2 x8_3 p163 q163
                                  obtain rfl : ad158 = ad163 := (by injection e163)
                                  replace p163 := eq_true p163
                                  replace q163 := eq_true q163
                                  go_wp2
                                  go_roundg k3
                                  case measure => have := HK1.out; have := HK2.out; have := HK3.out; omega
                                  case rel => exact ⟨(x7_3), (wrap64 (x8_3 + 1)), (by first | rfl | (simp; done) | (simp [*]; done)), (by first | rfl | (simp; done) | (simp [*]; done)), H', ⟨by have := HK1.out; have := HK2.out; have := HK3.out; omega⟩, ⟨by (with_reducible repeat (first | apply Kd.R_alloc | apply Kd.R_drewN | apply Kd.R_drew)); exact HO_4.out⟩, ⟨by repeat (first | (with_reducible first | exact HB.out | apply below_alloc | apply pw_below_drewN | apply below_drew1) | exact HB.out)⟩⟩
                            · rw [if_neg c15] at H
                              have c15b0 : decide ((wrap64 ((-9223372036854775808) - (rd x4_2 x8_3))) ≤ x6_2) = false := decide_eq_false c15
                              clear c15
                              have H' := Aside0.mk H
                              clear H
                              have p158 : 0 ≤ (x8_3 : Int) := of_decide_eq_true (by first | (with_reducible assumption) | assumption)
                              have q158 : x8_3 < (x4_2.length : Int) := of_decide_eq_true (by first | (with_reducible assumption) | assumption)
                              obtain ⟨ad158, e158, hx158_0⟩ := Kd.at_int (Kd.R_reads' HO_4.out).2.2 x8_3 p158 q158
                              cases e158
                              replace p158 := eq_true p158
                              replace q158 := eq_true q158
                              have p159 : 0 ≤ (x8_3 : Int) := of_decide_eq_true (by first | (with_reducible assumption) | assumption)
                              have q159 : x8_3 < (x4_2.length : Int) := of_decide_eq_true (by first | (with_reducible assumption) | assumption)
                              obtain ⟨ad159, e159, hx159_0⟩ := Kd.at_int (Kd.R_reads' HO_4.out).2.2 x8_3 p159 q159
                              obtain rfl : ad158 = ad159 := (by injection e159)
                              replace p159 := eq_true p159
                              replace q159 := eq_true q159
                              have p161 : 0 ≤ (x8_3 : Int) := of_decide_eq_true (by first | (with_reducible assumption) | assumption)
                              have q161 : x8_3 < (x4_2.length : Int) := of_decide_eq_true (by first | (with_reducible assumption) | assumption)
                              obtain ⟨ad161, e161, hx161_0⟩ := Kd.at_int (Kd.R_reads' HO_4.out).2.2 x8_3 p161 q161
                              obtain rfl : ad158 = ad161 := (by injection e161)
                              replace p161 := eq_true p161
                              replace q161 := eq_true q161
                              have p162 : 0 ≤ (x8_3 : Int) := of_decide_eq_true (by first | (with_reducible assumption) | assumption)
                              have q162 : x8_3 < (x4_2.length : Int) := of_decide_eq_true (by first | (with_reducible assumption) | assumption)
                              obtain ⟨ad162, e162, hx162_0⟩ := Kd.at_int (Kd.R_reads' HO_4.out).2.2 x8_3 p162 q162
                              obtain rfl : ad158 = ad162 := (by injection e162)
                              replace p162 := eq_true p162
                              replace q162 := eq_true q162
                              go_wp2
                              go_roundg k3
                              case measure => have := HK1.out; have := HK2.out; have := HK3.out; omega
                              case rel => exact ⟨(x7_3), (wrap64 (x8_3 + 1)), (by first | rfl | (simp; done) | (simp [*]; done)), (by first | rfl | (simp; done) | (simp [*]; done)), H', ⟨by have := HK1.out; have := HK2.out; have := HK3.out; omega⟩, ⟨by (with_reducible repeat (first | apply Kd.R_alloc | apply Kd.R_drewN | apply Kd.R_drew)); exact HO_4.out⟩, ⟨by repeat (first | (with_reducible first | exact HB.out | apply below_alloc | apply pw_below_drewN | apply below_drew1) | exact HB.out)⟩⟩
                          · rw [if_neg c14] at H
                            have c14b0 : decide ((rd x4_2 x8_3) < 0) = false := decide_eq_false c14
                            clear c14
                            have H' := Aside0.mk H
                            clear H
                            have p158 : 0 ≤ (x8_3 : Int) := of_decide_eq_true (by first | (with_reducible assumption) | assumption)
                            have q158 : x8_3 < (x4_2.length : Int) := of_decide_eq_true (by first | (with_reducible assumption) | assumption)
                            obtain ⟨ad158, e158, hx158_0⟩ := Kd.at_int (Kd.R_reads' HO_4.out).2.2 x8_3 p158 q158
                            cases e158
                            replace p158 := eq_true p158
                            replace q158 := eq_true q158
                            have p159 : 0 ≤ (x8_3 : Int) := of_decide_eq_true (by first | (with_reducible assumption) | assumption)
                            have q159 : x8_3 < (x4_2.length : Int) := of_decide_eq_true (by first | (with_reducible assumption) | assumption)
                            obtain ⟨ad159, e159, hx159_0⟩ := Kd.at_int (Kd.R_reads' HO_4.out).2.2 x8_3 p159 q159
                            obtain rfl : ad158 = ad159 := (by injection e159)
                            replace p159 := eq_true p159
                            replace q159 := eq_true q159
                            have p161 : 0 ≤ (x8_3 : Int) := of_decide_eq_true (by first | (with_reducible assumption) | assumption)
                            have q161 : x8_3 < (x4_2.length : Int) := of_decide_eq_true (by first | (with_reducible assumption) | assumption)
                            obtain ⟨ad161, e161, hx161_0⟩ := Kd.at_int (Kd.R_reads' HO_4.out).2.2 x8_3 p161 q161
                            obtain rfl : ad158 = ad161 := (by injection e161)
                            replace p161 := eq_true p161
                            replace q161 := eq_true q161
                            go_wp2
                            go_roundg k3
                            case measure => have := HK1.out; have := HK2.out; have := HK3.out; omega
                            case rel => exact ⟨(x7_3), (wrap64 (x8_3 + 1)), (by first | rfl | (simp; done) | (simp [*]; done)), (by first | rfl | (simp; done) | (simp [*]; done)), H', ⟨by have := HK1.out; have := HK2.out; have := HK3.out; omega⟩, ⟨by (with_reducible repeat (first | apply Kd.R_alloc | apply Kd.R_drewN | apply Kd.R_drew)); exact HO_4.out⟩, ⟨by repeat (first | (with_reducible first | exact HB.out | apply below_alloc | apply pw_below_drewN | apply below_drew1) | exact HB.out)⟩⟩
                      · rw [if_neg c10] at H
                        have c10b0 : decide (0 ≤ (rd x4_2 x8_3)) = false := decide_eq_false c10
                        clear c10
                        by_cases c18 : (rd x4_2 x8_3) < 0
                        · rw [if_pos c18] at H
                          have c18b0 : decide ((rd x4_2 x8_3) < 0) = true := decide_eq_true c18
                          clear c18
                          by_cases c19 : x6_2 ≥ (wrap64 ((-9223372036854775808) - (rd x4_2 x8_3)))
                          · rw [if_pos c19] at H
                            have c19b0 : decide ((wrap64 ((-9223372036854775808) - (rd x4_2 x8_3))) ≤ x6_2) = true := decide_eq_true c19
                            clear c19
                            by_cases c20 : x7_3 < 0
                            · rw [if_pos c20] at H
                              have c20b0 : decide (x7_3 < 0) = true := decide_eq_true c20
                              clear c20
                              have H' := Aside0.mk H
                              clear H
                              have p158 : 0 ≤ (x8_3 : Int) := of_decide_eq_true (by first | (with_reducible assumption) | assumption)
                              have q158 : x8_3 < (x4_2.length : Int) := of_decide_eq_true (by first | (with_reducible assumption) | assumption)
                              obtain ⟨ad158, e158, hx158_0⟩ := Kd.at_int (Kd.R_reads' HO_4.out).2.2 x8_3 p158 q158
                              cases e158
                              replace p158 := eq_true p158
                              replace q158 := eq_true q158
                              have p164 : 0 ≤ (x8_3 : Int) := of_decide_eq_true (by first | (with_reducible assumption) | assumption)
                              have q164 : x8_3 < (x4_2.length : Int) := of_decide_eq_true (by first | (with_reducible assumption) | assumption)
                              obtain ⟨ad164, e164, hx164_0⟩ := Kd.at_int (Kd.R_reads' HO_4.out).2.2 x8_3 p164 q164
                              obtain rfl : ad158 = ad164 := (by injection e164)
                              replace p164 := eq_true p164
                              replace q164 := eq_true q164
                              have p165 : 0 ≤ (x8_3 : Int) := of_decide_eq_true (by first | (with_reducible assumption) | assumption)
                              have q165 : x8_3 < (x4_2.length : Int) := of_decide_eq_true (by first | (with_reducible assumption) | assumption)
                              obtain ⟨ad165, e165, hx165_0⟩ := Kd.at_int (Kd.R_reads' HO_4.out).2.2 x8_3 p165 q165
                              obtain rfl : ad158 = ad165 := (by injection e165)
                              replace p165 := eq_true p165
                              replace q165 := eq_true q165
                              go_wp2
                              go_roundg k3
                              case measure => have := HK1.out; have := HK2.out; have := HK3.out; omega
                              case rel => exact ⟨(x8_3), (wrap64 (x8_3 + 1)), (by first | rfl | (simp; done) | (simp [*]; done)), (by first | rfl | (simp; done) | (simp [*]; done)), H', ⟨by have := HK1.out; have := HK2.out; have := HK3.out; omega⟩, ⟨by (with_reducible repeat (first | apply Kd.R_alloc | apply Kd.R_drewN | apply Kd.R_drew)); exact HO_4.out⟩, ⟨by repeat (first | (with_reducible first | exact HB.out | apply below_alloc | apply pw_below_drewN | apply below_drew1) | exact HB.out)⟩⟩
                            · rw [if_neg c20] at H
                              have c20b0 : decide (x7_3 < 0) = false := decide_eq_false c20
                              clear c20
                              by_cases c21 : ((decide ((rd x4_2 x8_3) < 0)) == (decide (x6_2 > 0))) = true
                              · rw [if_pos c21] at H
                                have c21b0 : ((decide ((rd x4_2 x8_3) < 0)) == (decide (x6_2 > 0))) = true := c21
                                (try (have c21q : 0 < x6_2 := (by (have h_ := c21b0; rw [(show decide ((rd x4_2 x8_3) < 0) = true by assumption)] at h_; simpa using h_)); have c21r : decide (0 < x6_2) = true := decide_eq_true c21q))
                                (try (have c21b1 : decide ((decide ((rd x4_2 x8_3) < 0)) = (decide (x6_2 > 0))) = true := by simpa using c21))
                                (try (have c21b2 : ((decide ((rd x4_2 x8_3) < 0)) == (decide (x6_2 > 0))) = true := by simpa using c21))
                                clear c21
                                have H' := Aside0.mk H
                                clear H
                                have p158 : 0 ≤ (x8_3 : Int) := of_decide_eq_true (by first | (with_reducible assumption) | assumption)
                                have q158 : x8_3 < (x4_2.length : Int) := of_decide_eq_true (by first | (with_reducible assumption) | assumption)
                                obtain ⟨ad158, e158, hx158_0⟩ := Kd.at_int (Kd.R_reads' HO_4.out).2.2 x8_3 p158 q158
                                cases e158
                                replace p158 := eq_true p158
                                replace q158 := eq_true q158
                                have p164 : 0 ≤ (x8_3 : Int) := of_decide_eq_true (by first | (with_reducible assumption) | assumption)
                                have q164 : x8_3 < (x4_2.length : Int) := of_decide_eq_true (by first | (with_reducible assumption) | assumption)
                                obtain ⟨ad164, e164, hx164_0⟩ := Kd.at_int (Kd.R_reads' HO_4.out).2.2 x8_3 p164 q164
                                obtain rfl : ad158 = ad164 := (by injection e164)
                                replace p164 := eq_true p164
                                replace q164 := eq_true q164
                                have p165 : 0 ≤ (x8_3 : Int) := of_decide_eq_true (by first | (with_reducible assumption) | assumption)
                                have q165 : x8_3 < (x4_2.length : Int) := of_decide_eq_true (by first | (with_reducible assumption) | assumption)
                                obtain ⟨ad165, e165, hx165_0⟩ := Kd.at_int (Kd.R_reads' HO_4.out).2.2 x8_3 p165 q165
                                obtain rfl : ad158 = ad165 := (by injection e165)
                                replace p165 := eq_true p165
                                replace q165 := eq_true q165
                                have p166 : 0 ≤ (x8_3 : Int) := of_decide_eq_true (by first | (with_reducible assumption) | assumption)
                                have q166 : x8_3 < (x4_2.length : Int) := of_decide_eq_true (by first | (with_reducible assumption) | assumption)
                                obtain ⟨ad166, e166, hx166_0⟩ := Kd.at_int (Kd.R_reads' HO_4.out).2.2 x8_3 p166 q166
                                obtain rfl : ad158 = ad166 := (by injection e166)
                                replace p166 := eq_true p166
                                replace q166 := eq_true q166
                                go_wp2
                                go_roundg k3
                                case measure => have := HK1.out; have := HK2.out; have := HK3.out; omega
                                case rel => exact ⟨(x8_3), (wrap64 (x8_3 + 1)), (by first | rfl | (simp; done) | (simp [*]; done)), (by first | rfl | (simp; done) | (simp [*]; done)), H', ⟨by have := HK1.out; have := HK2.out; have := HK3.out; omega⟩, ⟨by (with_reducible repeat (first | apply Kd.R_alloc | apply Kd.R_drewN | apply Kd.R_drew)); exact HO_4.out⟩, ⟨by repeat (first | (with_reducible first | exact HB.out | apply below_alloc | apply pw_below_drewN | apply below_drew1) | exact HB.out)⟩⟩
                              · rw [if_neg c21] at H
                                have c21b0 : ((decide ((rd x4_2 x8_3) < 0)) == (decide (x6_2 > 0))) = false := by simpa using c21
                                (try (have c21q : ¬ (0 < x6_2) := (by (have h_ := c21b0; rw [(show decide ((rd x4_2 x8_3) < 0) = true by assumption)] at h_; simpa using h_)); have c21r : decide (0 < x6_2) = false := decide_eq_false c21q))
                                (try (have c21b1 : decide ((decide ((rd x4_2 x8_3) < 0)) = (decide (x6_2 > 0))) = false := by simpa using c21))
                                (try (have c21b2 : ((decide ((rd x4_2 x8_3) < 0)) == (decide (x6_2 > 0))) = false := by simpa using c21))
                                (try (have c21b3 : ¬ ((decide ((rd x4_2 x8_3) < 0)) = (decide (x6_2 > 0))) := by simpa using c21))
                                clear c21
                                have H' := Aside0.mk H
                                clear H
                                have p158 : 0 ≤ (x8_3 : Int) := of_decide_eq_true (by first | (with_reducible assumption) | assumption)
                                have q158 : x8_3 < (x4_2.length : Int) := of_decide_eq_true (by first | (with_reducible assumption) | assumption)
                                obtain ⟨ad158, e158, hx158_0⟩ := Kd.at_int (Kd.R_reads' HO_4.out).2.2 x8_3 p158 q158
                                cases e158
                                replace p158 := eq_true p158
                                replace q158 := eq_true q158
                                have p164 : 0 ≤ (x8_3 : Int) := of_decide_eq_true (by first | (with_reducible assumption) | assumption)
                                have q164 : x8_3 < (x4_2.length : Int) := of_decide_eq_true (by first | (with_reducible assumption) | assumption)
                                obtain ⟨ad164, e164, hx164_0⟩ := Kd.at_int (Kd.R_reads' HO_4.out).2.2 x8_3 p164 q164
                                obtain rfl : ad158 = ad164 := (by injection e164)
                                replace p164 := eq_true p164
                                replace q164 := eq_true q164
                                have p165 : 0 ≤ (x8_3 : Int) := of_decide_eq_true (by first | (with_reducible assumption) | assumption)
                                have q165 : x8_3 < (x4_2.length : Int) := of_decide_eq_true (by first | (with_reducible assumption) | assumption)
                                obtain ⟨ad165, e165, hx165_0⟩ := Kd.at_int (Kd.R_reads' HO_4.out).2.2 x8_3 p165 q165
                                obtain rfl : ad158 = ad165 := (by injection e165)
                                replace p165 := eq_true p165
                                replace q165 := eq_true q165
                                have p166 : 0 ≤ (x8_3 : Int) := of_decide_eq_true (by first | (with_reducible assumption) | assumption)
                                have q166 : x8_3 < (x4_2.length : Int) := of_decide_eq_true (by first | (with_reducible assumption) | assumption)
                                obtain ⟨ad166, e166, hx166_0⟩ := Kd.at_int (Kd.R_reads' HO_4.out).2.2 x8_3 p166 q166
                                obtain rfl : ad158 = ad166 := (by injection e166)
                                replace p166 := eq_true p166
                                replace q166 := eq_true q166
                                go_wp2
                                go_roundg k3
                                case measure => have := HK1.out; have := HK2.out; have := HK3.out; omega
                                case rel => exact ⟨(x7_3), (wrap64 (x8_3 + 1)), (by first | rfl | (simp; done) | (simp [*]; done)), (by first | rfl | (simp; done) | (simp [*]; done)), H', ⟨by have := HK1.out; have := HK2.out; have := HK3.out; omega⟩, ⟨by (with_reducible repeat (first | apply Kd.R_alloc | apply Kd.R_drewN | apply Kd.R_drew)); exact HO_4.out⟩, ⟨by repeat (first | (with_reducible first | exact HB.out | apply below_alloc | apply pw_below_drewN | apply below_drew1) | exact HB.out)⟩⟩
                          · rw [if_neg c19] at H
                            have c19b0 : decide ((wrap64 ((-9223372036854775808) - (rd x4_2 x8_3))) ≤ x6_2) = false := decide_eq_false c19
                            clear c19
                            have H' := Aside0.mk H
                            clear H
                            have p158 : 0 ≤ (x8_3 : Int) := of_decide_eq_true (by first | (with_reducible assumption) | assumption)
                            have q158 : x8_3 < (x4_2.length : Int) := of_decide_eq_true (by first | (with_reducible assumption) | assumption)
                            obtain ⟨ad158, e158, hx158_0⟩ := Kd.at_int (Kd.R_reads' HO_4.out).2.2 x8_3 p158 q158
                            cases e158
                            replace p158 := eq_true p158
                            replace q158 := eq_true q158
                            have p164 : 0 ≤ (x8_3 : Int) := of_decide_eq_true (by first | (with_reducible assumption) | assumption)
                            have q164 : x8_3 < (x4_2.length : Int) := of_decide_eq_true (by first | (with_reducible assumption) | assumption)
                            obtain ⟨ad164, e164, hx164_0⟩ := Kd.at_int (Kd.R_reads' HO_4.out).2.2 x8_3 p164 q164
                            obtain rfl : ad158 = ad164 := (by injection e164)
                            replace p164 := eq_true p164
                            replace q164 := eq_true q164
                            have p165 : 0 ≤ (x8_3 : Int) := of_decide_eq_true (by first | (with_reducible assumption) | assumption)
                            have q165 : x8_3 < (x4_2.length : Int) := of_decide_eq_true (by first | (with_reducible assumption) | assumption)
                            obtain ⟨ad165, e165, hx165_0⟩ := Kd.at_int (Kd.R_reads' HO_4.out).2.2 x8_3 p165 q165
                            obtain rfl : ad158 = ad165 := (by injection e165)
                            replace p165 := eq_true p165
                            replace q165 := eq_true q165
                            go_wp2
                            go_roundg k3
                            case measure => have := HK1.out; have := HK2.out; have := HK3.out; omega
                            case rel => exact ⟨(x7_3), (wrap64 (x8_3 + 1)), (by first | rfl | (simp; done) | (simp [*]; done)), (by first | rfl | (simp; done) | (simp [*]; done)), H', ⟨by have := HK1.out; have := HK2.out; have := HK3.out; omega⟩, ⟨by (with_reducible repeat (first | apply Kd.R_alloc | apply Kd.R_drewN | apply Kd.R_drew)); exact HO_4.out⟩, ⟨by repeat (first | (with_reducible first | exact HB.out | apply below_alloc | apply pw_below_drewN | apply below_drew1) | exact HB.out)⟩⟩
                        · rw [if_neg c18] at H
                          have c18b0 : decide ((rd x4_2 x8_3) < 0) = false := decide_eq_false c18
                          clear c18
                          have H' := Aside0.mk H
                          clear H
                          have p158 : 0 ≤ (x8_3 : Int) := of_decide_eq_true (by first | (with_reducible assumption) | assumption)
                          have q158 : x8_3 < (x4_2.length : Int) := of_decide_eq_true (by first | (with_reducible assumption) | assumption)
                          obtain ⟨ad158, e158, hx158_0⟩ := Kd.at_int (Kd.R_reads' HO_4.out).2.2 x8_3 p158 q158
                          cases e158
                          replace p158 := eq_true p158
                          replace q158 := eq_true q158
                          have p164 : 0 ≤ (x8_3 : Int) := of_decide_eq_true (by first | (with_reducible assumption) | assumption)
                          have q164 : x8_3 < (x4_2.length : Int) := of_decide_eq_true (by first | (with_reducible assumption) | assumption)
                          obtain ⟨ad164, e164, hx164_0⟩ := Kd.at_int (Kd.R_reads' HO_4.out).2.2 x8_3 p164 q164
                          obtain rfl : ad158 = ad164 := (by injection e164)
                          replace p164 := eq_true p164
                          replace q164 := eq_true q164
                          go_wp2
                          go_roundg k3
                          case measure => have := HK1.out; have := HK2.out; have := HK3.out; omega
                          case rel => exact ⟨(x7_3), (wrap64 (x8_3 + 1)), (by first | rfl | (simp; done) | (simp [*]; done)), (by first | rfl | (simp; done) | (simp [*]; done)), H', ⟨by have := HK1.out; have := HK2.out; have := HK3.out; omega⟩, ⟨by (with_reducible repeat (first | apply Kd.R_alloc | apply Kd.R_drewN | apply Kd.R_drew)); exact HO_4.out⟩, ⟨by repeat (first | (with_reducible first | exact HB.out | apply below_alloc | apply pw_below_drewN | apply below_drew1) | exact HB.out)⟩⟩
                    · rw [if_neg c9] at H
                      exact absurd H (by simp)
                  · rw [if_neg c8] at H
                    have c8b0 : decide (x8_3 < (x4_2.length : Int)) = false := decide_eq_false c8
                    clear c8
                    by_cases c22 : x7_3 < 0
                    · rw [if_pos c22] at H
                      have c22b0 : decide (x7_3 < 0) = true := decide_eq_true c22
                      clear c22
                      simp only [Option.some.injEq, Prod.mk.injEq] at H
                      obtain ⟨rfl, rfl⟩ := H
                      go_wp2
                      go_ret2
                      exact ⟨by first | rfl | (simp [errW_none, errW_some] <;> rfl) | (refine congrArg (fun b_ : Bool => Ending.returned (Value.bool b_)) ?_; simp; done) | (simp [*, errW_none, errW_some] <;> rfl), by repeat (first | (with_reducible first | exact HB.out | apply below_alloc | apply pw_below_drewN | apply below_drew1) | exact HB.out)⟩
                    · rw [if_neg c22] at H
                      have c22b0 : decide (x7_3 < 0) = false := decide_eq_false c22
                      clear c22
                      by_cases c23 : 0 ≤ x7_3
                      · rw [if_pos c23] at H
                        have c23b0 : decide (0 ≤ x7_3) = true := decide_eq_true c23
                        clear c23
                        by_cases c24 : x7_3 < (x4_2.length : Int)
                        · rw [if_pos c24] at H
                          have c24b0 : decide (x7_3 < (x4_2.length : Int)) = true := decide_eq_true c24
                          clear c24
                          have c25b0 := eq_true (of_decide_eq_true (by first | (with_reducible assumption) | assumption) : 0 ≤ x7_3)
                          by_cases c26 : x7_3 ≤ (x4_2.length : Int)
                          · rw [if_pos c26] at H
                            have c26b0 := eq_true c26
                            have c26b1 : decide (x7_3 ≤ (x4_2.length : Int)) = true := decide_eq_true c26
                            clear c26
                            obtain ⟨y168, hy168⟩ : ∃ y_ : List Int, y_ = (x4_2.take (x7_3 : Int).toNat) := ⟨_, rfl⟩
                            replace H : (if ([] : List Int).length + y168.length < 17592186044416 then ((some (([] : List Int) ++ y168 : List Int)).bind fun y172 => (if 0 ≤ (wrap64 (x7_3 + 1)) then (if (wrap64 (x7_3 + 1)) ≤ (x4_2.length : Int) then ((some (x4_2.drop ((wrap64 (x7_3 + 1)) : Int).toNat : List Int)).bind fun y175 => (if y172.length + y175.length < 17592186044416 then (winnowerref18_sum.l1 k3 (y172 ++ y175) (wrap64 (x6_2 + (rd x4_2 x7_3)))) else (none))) else (none)) else (none))) else (none)) = some (r1, r2) := by first | (rw [hy168]; with_reducible exact H) | (have H2_ := (Option.bind_some _ _).symm.trans H; rw [hy168]; with_reducible exact H2_) | (have H2_ := (Option.bind_some _ _).symm.trans H; with_reducible exact H2_) | with_reducible exact H | (rw [hy168]; exact H) | exact H
                            have Ny168 := Aside0.mk hy168
                            clear hy168
                            by_cases c27 : ([] : List Int).length + y168.length < 17592186044416
                            · rw [if_pos c27] at H
                              have LMc27 := Aside0.mk c27
                              clear c27
                              obtain ⟨y172, hy172⟩ : ∃ y_ : List Int, y_ = (([] : List Int) ++ y168) := ⟨_, rfl⟩
                              replace H : (if 0 ≤ (wrap64 (x7_3 + 1)) then (if (wrap64 (x7_3 + 1)) ≤ (x4_2.length : Int) then ((some (x4_2.drop ((wrap64 (x7_3 + 1)) : Int).toNat : List Int)).bind fun y175 => (if y172.length + y175.length < 17592186044416 then (winnowerref18_sum.l1 k3 (y172 ++ y175) (wrap64 (x6_2 + (rd x4_2 x7_3)))) else (none))) else (none)) else (none)) = some (r1, r2) := by first | (rw [hy172]; with_reducible exact H) | (have H2_ := (Option.bind_some _ _).symm.trans H; rw [hy172]; with_reducible exact H2_) | (have H2_ := (Option.bind_some _ _).symm.trans H; with_reducible exact H2_) | with_reducible exact H | (rw [hy172]; exact H) | exact H
                              have Ny172 := Aside0.mk hy172
                              clear hy172
                              obtain ⟨ji28, hji28⟩ : ∃ j_ : Int, (wrap64 (x7_3 + 1)) = j_ := ⟨_, rfl⟩
                              replace H : (if 0 ≤ (ji28) then (if (ji28) ≤ (x4_2.length : Int) then ((some (x4_2.drop ((ji28) : Int).toNat : List Int)).bind fun y175 => (if y172.length + y175.length < 17592186044416 then (winnowerref18_sum.l1 k3 (y172 ++ y175) (wrap64 (x6_2 + (rd x4_2 x7_3)))) else (none))) else (none)) else (none)) = some (r1, r2) := by first | (rw [hji28] at H; exact H) | (simp only [hji28] at H ⊢; exact H)
                              have hji28w : (IntKind.i64.wrap (x7_3 + 1)) = ji28 := (i64_w _).trans hji28
                              by_cases c29 : 0 ≤ (ji28)
                              · rw [if_pos c29] at H
                                have c29b0 := eq_true c29
                                have c29b1 : decide (0 ≤ (ji28)) = true := decide_eq_true c29
                                clear c29
                                by_cases c30 : (ji28) ≤ (x4_2.length : Int)
                                · rw [if_pos c30] at H
                                  have c30b0 := eq_true c30
                                  have c30b1 : decide ((ji28) ≤ (x4_2.length : Int)) = true := decide_eq_true c30
                                  clear c30
                                  obtain ⟨y175, hy175⟩ : ∃ y_ : List Int, y_ = (x4_2.drop ((ji28) : Int).toNat) := ⟨_, rfl⟩
                                  replace H : (if y172.length + y175.length < 17592186044416 then (winnowerref18_sum.l1 k3 (y172 ++ y175) (wrap64 (x6_2 + (rd x4_2 x7_3)))) else (none)) = some (r1, r2) := by first | (rw [hy175]; with_reducible exact H) | (have H2_ := (Option.bind_some _ _).symm.trans H; rw [hy175]; with_reducible exact H2_) | (have H2_ := (Option.bind_some _ _).symm.trans H; with_reducible exact H2_) | with_reducible exact H | (rw [hy175]; exact H) | exact H
                                  have Ny175 := Aside0.mk hy175
                                  clear hy175
                                  by_cases c31 : y172.length + y175.length < 17592186044416
                                  · rw [if_pos c31] at H
                                    have LMc31 := Aside0.mk c31
                                    clear c31
                                    obtain ⟨y179, hy179⟩ : ∃ y_ : List Int, y_ = (y172 ++ y175) := ⟨_, rfl⟩
                                    replace H : (winnowerref18_sum.l1 k3 y179 (wrap64 (x6_2 + (rd x4_2 x7_3)))) = some (r1, r2) := by first | (rw [hy179]; with_reducible exact H) | (have H2_ := (Option.bind_some _ _).symm.trans H; rw [hy179]; with_reducible exact H2_) | (have H2_ := (Option.bind_some _ _).symm.trans H; with_reducible exact H2_) | with_reducible exact H | (rw [hy179]; exact H) | exact H
                                    have Ny179 := Aside0.mk hy179
                                    clear hy179
                                    have H' := Aside0.mk H
                                    clear H
                                    have p167 : 0 ≤ (x7_3 : Int) := of_decide_eq_true (by first | (with_reducible assumption) | assumption)
                                    have q167 : x7_3 < (x4_2.length : Int) := of_decide_eq_true (by first | (with_reducible assumption) | assumption)
                                    obtain ⟨ad167, e167, hx167_0⟩ := Kd.at_int (Kd.R_reads' HO_4.out).2.2 x7_3 p167 q167
                                    cases e167
                                    replace p167 := eq_true p167
                                    replace q167 := eq_true q167
                                    have q32 : (x7_3 : Int) ≤ ((x4_2.length : Int) : Int) := of_decide_eq_true (by first | (with_reducible assumption) | assumption)
                                    obtain ⟨i032, hi032, _, hsz32, _⟩ := info_parts info3
                                    have hroom32 : x4_2.length ≤ co7 := (Kd.R_reads' HO_4.out).2.1
                                    have hC32 : Kd.C (Kd.int .i64) _ (some ad167) x4_2.length x4_2 := (Kd.R_reads' HO_4.out).2.2
                                    have hcut32 := cut_to (P := Try.prog) 61 3 .i64 Try.underlying61 hi032 (some ad167) x4_2.length co7 x7_3 (of_decide_eq_true (by first | (with_reducible assumption) | assumption)) q32 hroom32
                                    have hr32 := Kd.C_take (m := (x7_3 : Int).toNat) hC32 (by omega)
                                    have hy32 : y168.length = (x7_3 : Int).toNat := (by rw [Ny168.out, List.length_take]; omega)
                                    rw [← Ny168.out] at hr32
                                    rw [← hy32] at hcut32
                                    have HR171 := Aside0.mk hr32
                                    have HC171 := Aside0.mk (show y168.length ≤ co7 from by omega)
                                    clear hr32 hC32 hroom32 hi032 hsz32
                                    have KY32 := Aside0.mk hy32
                                    clear hy32
                                    have KL32 := Aside0.mk (show (x7_3 : Int).toNat ≤ x4_2.length from by omega)
                                    replace q32 := eq_true q32
                                    go_wp2_with (first | ((with_reducible refine gate_builtin (b := .append) (xs := #[.const (.slice none 0 0), .tmp 90]) rfl ?_); at_builtin; refine Kd.R_append_rows (Kd.int .i64) (w0 := w) w.heap.size rfl (.const (.slice none 0 0)) (.tmp 90) 61 3 (.int .i64 0) 8 rfl Try.underlying61 info3 rfl (by decide) (by omega) (.slice none 0 0) ([] : List Int) y168 _ _ _ (fun k_ => some k_ ≠ (.slice (some ad167) x4_2.length co7 : Value).ownBlock) (fun _ => False) rfl rfl ?aO ?aR (fun _ _ h => h) (fun _ h => h.elim) ?aF ?aB ?aS ?aL ?_; (case aR => repeat (first | exact (by repeat (first | (with_reducible exact HR171.out) | (with_reducible refine Kd.C_alloc ?_ _) | (with_reducible refine Kd.C_drewN ?_ _) | (with_reducible refine Kd.C_drew ?_) | exact HR171.out)) | (with_reducible refine Kd.C_alloc ?_ _) | (with_reducible refine Kd.C_drewN ?_ _) | (with_reducible refine Kd.C_drew ?_))); (case aB => exact (by repeat (first | (with_reducible first | exact HB.out | apply below_alloc | apply pw_below_drewN | apply below_drew1) | exact HB.out))); (case aF => exact (fun k_ hk => Kd.fresh' (Kd.R_lt (by (with_reducible repeat (first | apply Kd.R_alloc | apply Kd.R_drewN | apply Kd.R_drew)); exact HO_4.out)) k_ hk)); (case aO => exact ((Kd.R_nil _ _ _ _ (fun k_ => some k_ ≠ (.slice (some ad167) x4_2.length co7 : Value).ownBlock)))); (case aS => exact (below_size (by repeat (first | (with_reducible first | exact HB.out | apply below_alloc | apply pw_below_drewN | apply below_drew1) | exact HB.out)))); (case aL => have := LMc27.out; omega); intro v173 w33 ho hb hg hat; rw [← Ny172.out] at ho; have n0_ := Aside0.mk (Kd.R_after (Kd.R_apart_nil (by (with_reducible repeat (first | apply Kd.R_alloc | apply Kd.R_drewN | apply Kd.R_drew)); exact HO_4.out)) hg hat); have n1_ := Aside0.mk (hb); have n2_ := Aside0.mk ((show Kd.C (Kd.int .i64) w33 (some ad167) y168.length y168 from by rw [Ny168.out]; exact Kd.C_take (m := (x7_3 : Int).toNat) ((Kd.R_reads' (Kd.R_after (Kd.R_apart_nil (by (with_reducible repeat (first | apply Kd.R_alloc | apply Kd.R_drewN | apply Kd.R_drew)); exact HO_4.out)) hg hat)).2.2) KL32.out)); have n3_ := Aside0.mk (ho); clear HO_4; clear HB; clear HR171; have HO_4 := n0_; have HB := n1_; have HR171 := n2_; have HO174 := n3_; clear n0_ n1_ n2_ n3_; clear ho hb hg hat; have q34 : ((ji28) : Int) ≤ ((x4_2.length : Int) : Int) := of_decide_eq_true (by first | (with_reducible assumption) | assumption); obtain ⟨i034, hi034, _, hsz34, _⟩ := info_parts info3; have hroom34 : x4_2.length ≤ co7 := (Kd.R_reads' HO_4.out).2.1; have hC34 : Kd.C (Kd.int .i64) _ (some ad167) x4_2.length x4_2 := (Kd.R_reads' HO_4.out).2.2; have q034 : (0 : Int) ≤ ((ji28) : Int) := of_decide_eq_true (by first | (with_reducible assumption) | assumption); have hcut34 := cut_from (P := Try.prog) 61 3 .i64 Try.underlying61 hi034 1 hsz34 (some ad167) x4_2.length co7 (ji28) q034 q34; have hr34 := Kd.C_drop (m := ((ji28) : Int).toNat) (c := co7) hC34 (by omega) hroom34; obtain ⟨A34, hA34⟩ : ∃ A1, A1 = (if co7 = ((ji28) : Int).toNat then (some ad167) else ((some ad167) : Option Addr).map (·.add (((ji28) : Int).toNat * 1))) := ⟨_, rfl⟩; obtain ⟨c34, hc34⟩ : ∃ c1, c1 = co7 - ((ji28) : Int).toNat := ⟨_, rfl⟩; have hy34 : y175.length = x4_2.length - ((ji28) : Int).toNat := (by rw [Ny175.out, List.length_drop] <;> omega); rw [show (x4_2).drop ((ji28) : Int).toNat = y175 from Ny175.out.symm] at hr34; replace hr34 : Kd.C (Kd.int .i64) _ A34 y175.length y175 := (by rw [hA34]; exact hr34); rw [← hy34, ← hA34, ← hc34] at hcut34; have HR178 := Aside0.mk hr34; have HC178 := Aside0.mk (show y175.length ≤ c34 from by rw [hy34, hc34]; exact Nat.sub_le_sub_right hroom34 _); clear hr34 hC34 hroom34 hi034 hsz34 hc34; have KY34 := Aside0.mk hy34; have KA34 := Aside0.mk hA34; clear hy34 hA34; have KL34 := Aside0.mk (show ((ji28) : Int).toNat ≤ x4_2.length from by omega); replace q34 := eq_true q34) | ((with_reducible refine gate_builtin (b := .append) (xs := #[.tmp 92, .tmp 96]) rfl ?_); at_builtin; refine Kd.R_append_rows (Kd.int .i64) (w0 := w) w.heap.size rfl (.tmp 92) (.tmp 96) 61 3 (.int .i64 0) 8 rfl Try.underlying61 info3 rfl (by decide) (by omega) v173 y172 y175 _ _ _ (fun k_ => some k_ ≠ (.slice (some ad167) x4_2.length co7 : Value).ownBlock) (fun _ => False) rfl rfl ?aO ?aR (fun _ _ h => h) (fun _ h => h.elim) ?aF ?aB ?aS ?aL ?_; (case aR => repeat (first | exact (by repeat (first | (with_reducible exact HR178.out) | (with_reducible refine Kd.C_alloc ?_ _) | (with_reducible refine Kd.C_drewN ?_ _) | (with_reducible refine Kd.C_drew ?_) | exact HR178.out)) | (with_reducible refine Kd.C_alloc ?_ _) | (with_reducible refine Kd.C_drewN ?_ _) | (with_reducible refine Kd.C_drew ?_))); (case aB => exact (by repeat (first | (with_reducible first | exact HB.out | apply below_alloc | apply pw_below_drewN | apply below_drew1) | exact HB.out))); (case aF => exact (fun k_ hk => Kd.fresh' (Kd.R_lt (by (with_reducible repeat (first | apply Kd.R_alloc | apply Kd.R_drewN | apply Kd.R_drew)); exact HO_4.out)) k_ hk)); (case aO => exact (by (with_reducible repeat (first | apply Kd.R_alloc | apply Kd.R_drewN | apply Kd.R_drew)); exact HO174.out)); (case aS => exact (below_size (by repeat (first | (with_reducible first | exact HB.out | apply below_alloc | apply pw_below_drewN | apply below_drew1) | exact HB.out)))); (case aL => have := LMc31.out; omega); intro v180 w35 ho hb hg hat; rw [← Ny179.out] at ho; have n0_ := Aside0.mk (Kd.R_after (ok := (fun _ => True)) (by (with_reducible repeat (first | apply Kd.R_alloc | apply Kd.R_drewN | apply Kd.R_drew)); exact HO_4.out) hg hat); have n1_ := Aside0.mk (hb); have n2_ := Aside0.mk ((show Kd.C (Kd.int .i64) w35 (some ad167) y168.length y168 from by rw [Ny168.out]; exact Kd.C_take (m := (x7_3 : Int).toNat) ((Kd.R_reads' (Kd.R_after (ok := (fun _ => True)) (by (with_reducible repeat (first | apply Kd.R_alloc | apply Kd.R_drewN | apply Kd.R_drew)); exact HO_4.out) hg hat)).2.2) KL32.out)); have n3_ := Aside0.mk ((show Kd.C (Kd.int .i64) w35 A34 y175.length y175 from by rw [Ny175.out, KA34.out]; exact Kd.C_drop (m := ((ji28) : Int).toNat) (c := co7) ((Kd.R_reads' (Kd.R_after (ok := (fun _ => True)) (by (with_reducible repeat (first | apply Kd.R_alloc | apply Kd.R_drewN | apply Kd.R_drew)); exact HO_4.out) hg hat)).2.2) KL34.out ((Kd.R_reads' (Kd.R_after (ok := (fun _ => True)) (by (with_reducible repeat (first | apply Kd.R_alloc | apply Kd.R_drewN | apply Kd.R_drew)); exact HO_4.out) hg hat)).2.1))); have n4_ := Aside0.mk (ho); clear HO_4; clear HB; clear HR171; clear HR178; clear HO174; have HO_4 := n0_; have HB := n1_; have HR171 := n2_; have HR178 := n3_; have HO181 := n4_; clear n0_ n1_ n2_ n3_ n4_; clear ho hb hg hat))
                                    go_roundg k3
                                    case measure => have := HK1.out; have := HK2.out; have := HK3.out; omega
                                    case rel => exact ⟨(y179), (wrap64 (x6_2 + (rd x4_2 x7_3))), (by first | rfl | (simp; done) | (simp [*]; done)), H', ⟨by have := HK1.out; have := HK2.out; have := HK3.out; omega⟩, ⟨by (with_reducible repeat (first | apply Kd.R_alloc | apply Kd.R_drewN | apply Kd.R_drew)); exact Kd.R_mono HO181.out (fun _ hk => trivial)⟩, ⟨by repeat (first | (with_reducible first | exact HB.out | apply below_alloc | apply pw_below_drewN | apply below_drew1) | exact HB.out)⟩⟩
                                  · rw [if_neg c31] at H
                                    exact absurd H (by simp)
                                · rw [if_neg c30] at H
                                  exact absurd H (by simp)
                              · rw [if_neg c29] at H
                                exact absurd H (by simp)
                            · rw [if_neg c27] at H
                              exact absurd H (by simp)
                          · rw [if_neg c26] at H
                            exact absurd H (by simp)
                        · rw [if_neg c24] at H
                          exact absurd H (by simp)
                      · rw [if_neg c23] at H
                        exact absurd H (by simp)
            · rw [if_neg c6] at H
              have c6b0 : decide (0 < (x4_2.length : Int)) = false := decide_eq_false c6
              have c6b1 : decide (0 < x4_2.length) = false := decide_eq_false (by omega)
              clear c6
              simp only [Option.some.injEq, Prod.mk.injEq] at H
              obtain ⟨rfl, rfl⟩ := H
              obtain ⟨Ao36, co36, eo36⟩ := Kd.R_slice HO_4.out
              subst eo36
              go_wp2
              go_ret2
              exact ⟨by first | rfl | (simp [errW_none, errW_some] <;> rfl) | (refine congrArg (fun b_ : Bool => Ending.returned (Value.bool b_)) ?_; simp; done) | (simp [*, errW_none, errW_some] <;> rfl), by repeat (first | (with_reducible first | exact HB.out | apply below_alloc | apply pw_below_drewN | apply below_drew1) | exact HB.out)⟩

end Go.Proofs.Ytgjmpancofjjbaa.Q
