/- The machine side of laws, written by wip/tools/myprint.py (the printer's way, with functions proved by hand put in); Lean checks it. -/
import Derived.Test.YthcbcddnillipaaHbitnum
import Derived.Test.YthcbcddnillipaaSx0
import Derived.Test.YthcbcddnillipaaSx1
namespace Go.Proofs.Ythcbcddnillipaa.S
open Go.RowKit Go.Proofs.YthcbcddnillipaaW.PrintWords Go.Proofs.YthcbcddnillipaaW.PrintLast Go.Proofs.YthcbcddnillipaaW.PrintMore
attribute [local go_sem] max2_int min2_int max_two min_two max_three min_three max_four min_four   -- for this text's walks alone
set_option linter.unusedVariables false
set_option linter.unusedSimpArgs false

/-! ### winnowerref02_Unpack_p: function 16 -/
mutual
def winnowerref02_Unpack_p.j0 : Nat → List Int → Int → Int → Bool → Option (List Int × Int)
  | 0, _, _, _, _ => none
  | k + 1, x0, x1, x2, x21 => if x21 = true then (some (([] : List Int), 1)) else (if x1 > 4096 then (some (([] : List Int), 2)) else (if (wrap64 (8 * (x0.length : Int))) < (wrap64 (x1 * x2)) then (some (([] : List Int), 6)) else (if (x0.length : Int) > (wrap64 (Int.tdiv (wrap64 ((wrap64 (x1 * x2)) + 7)) 8)) then (some (([] : List Int), 7)) else ((winnowerref02_spread.f x0).bind fun t149 => (winnowerref02_Unpack_p.l0 k x1 x2 t149 ([] : List Int) 0)))))
def winnowerref02_Unpack_p.l0 : Nat → Int → Int → List Int → List Int → Int → Option (List Int × Int)
  | 0, _, _, _, _, _ => none
  | k + 1, x1, x2, x8, x9, x10 => if x10 < x1 then (if 0 ≤ (wrap64 (x10 * x2)) then (if (wrap64 (x10 * x2)) ≤ (wrap64 ((wrap64 (x10 + 1)) * x2)) then (if (wrap64 ((wrap64 (x10 + 1)) * x2)) ≤ (x8.length : Int) then ((winnowerref02_value.f ((x8.take ((wrap64 ((wrap64 (x10 + 1)) * x2)) : Int).toNat).drop ((wrap64 (x10 * x2)) : Int).toNat)).bind fun t156 => (if x9.length < 17592186044416 then (winnowerref02_Unpack_p.l0 k x1 x2 x8 (x9 ++ [t156]) (wrap64 (x10 + 1))) else (none))) else (none)) else (none)) else (none)) else (winnowerref02_Unpack_p.l1 k x8 x9 (wrap64 (x1 * x2)))
def winnowerref02_Unpack_p.l1 : Nat → List Int → List Int → Int → Option (List Int × Int)
  | 0, _, _, _ => none
  | k + 1, x8, x9, x11 => if x11 < (x8.length : Int) then (if 0 ≤ x11 then (if (rd x8 x11) = 0 then (winnowerref02_Unpack_p.l1 k x8 x9 (wrap64 (x11 + 1))) else (some (([] : List Int), 7))) else (none)) else (some (x9, 0))
end
def winnowerref02_Unpack_p.f (k : Nat) (l0 : List Int) (a1 : Int) (a2 : Int) : Option (List Int × Int) := if a2 < 0 then (winnowerref02_Unpack_p.j0 k l0 a1 a2 true) else (if a2 > 62 then (winnowerref02_Unpack_p.j0 k l0 a1 a2 true) else (winnowerref02_Unpack_p.j0 k l0 a1 a2 (decide (a1 < 0))))
theorem winnowerref02_Unpack_p.mono_l : ∀ k, (∀ y0 y1 y2 y3, LeO (winnowerref02_Unpack_p.j0 k y0 y1 y2 y3) (winnowerref02_Unpack_p.j0 (k + 1) y0 y1 y2 y3)) ∧ (∀ y0 y1 y2 y3 y4, LeO (winnowerref02_Unpack_p.l0 k y0 y1 y2 y3 y4) (winnowerref02_Unpack_p.l0 (k + 1) y0 y1 y2 y3 y4)) ∧ (∀ y0 y1 y2, LeO (winnowerref02_Unpack_p.l1 k y0 y1 y2) (winnowerref02_Unpack_p.l1 (k + 1) y0 y1 y2))
  | 0 => ⟨fun _ _ _ _ r h => by simp [winnowerref02_Unpack_p.j0] at h, fun _ _ _ _ _ r h => by simp [winnowerref02_Unpack_p.l0] at h, fun _ _ _ r h => by simp [winnowerref02_Unpack_p.l1] at h⟩
  | k + 1 => by
    obtain ⟨ih0, ih1, ih2⟩ := winnowerref02_Unpack_p.mono_l k
    refine ⟨?_, ?_, ?_⟩
    · intro y0 y1 y2 y3
      unfold winnowerref02_Unpack_p.j0
      repeat' first
      | (with_reducible exact ih0 _ _ _ _)
      | (with_reducible exact ih1 _ _ _ _ _)
      | (with_reducible exact ih2 _ _ _)
      | (with_reducible exact LeO.refl _)
      | (with_reducible exact LeO.none _)
      | (with_reducible refine LeO.ite ?_ ?_)
      | (with_reducible refine LeO.bind ?_ (fun _ => ?_))
      | exact ih0 _ _ _ _
      | exact ih1 _ _ _ _ _
      | exact ih2 _ _ _
      | exact LeO.none _
      | refine LeO.ite ?_ ?_
      | refine LeO.bind ?_ (fun _ => ?_)
    · intro y0 y1 y2 y3 y4
      unfold winnowerref02_Unpack_p.l0
      repeat' first
      | (with_reducible exact ih0 _ _ _ _)
      | (with_reducible exact ih1 _ _ _ _ _)
      | (with_reducible exact ih2 _ _ _)
      | (with_reducible exact LeO.refl _)
      | (with_reducible exact LeO.none _)
      | (with_reducible refine LeO.ite ?_ ?_)
      | (with_reducible refine LeO.bind ?_ (fun _ => ?_))
      | exact ih0 _ _ _ _
      | exact ih1 _ _ _ _ _
      | exact ih2 _ _ _
      | exact LeO.none _
      | refine LeO.ite ?_ ?_
      | refine LeO.bind ?_ (fun _ => ?_)
    · intro y0 y1 y2
      unfold winnowerref02_Unpack_p.l1
      repeat' first
      | (with_reducible exact ih0 _ _ _ _)
      | (with_reducible exact ih1 _ _ _ _ _)
      | (with_reducible exact ih2 _ _ _)
      | (with_reducible exact LeO.refl _)
      | (with_reducible exact LeO.none _)
      | (with_reducible refine LeO.ite ?_ ?_)
      | (with_reducible refine LeO.bind ?_ (fun _ => ?_))
      | exact ih0 _ _ _ _
      | exact ih1 _ _ _ _ _
      | exact ih2 _ _ _
      | exact LeO.none _
      | refine LeO.ite ?_ ?_
      | refine LeO.bind ?_ (fun _ => ?_)
theorem winnowerref02_Unpack_p.mono : ∀ a0 a1 a2 k, LeO (winnowerref02_Unpack_p.f k a0 a1 a2) (winnowerref02_Unpack_p.f (k + 1) a0 a1 a2) := by
  intro a0 a1 a2 k
  obtain ⟨ih0, ih1, ih2⟩ := winnowerref02_Unpack_p.mono_l k
  unfold winnowerref02_Unpack_p.f
  repeat' first
      | (with_reducible exact ih0 _ _ _ _)
      | (with_reducible exact ih1 _ _ _ _ _)
      | (with_reducible exact ih2 _ _ _)
      | (with_reducible exact LeO.refl _)
      | (with_reducible exact LeO.none _)
      | (with_reducible refine LeO.ite ?_ ?_)
      | (with_reducible refine LeO.bind ?_ (fun _ => ?_))
      | exact ih0 _ _ _ _
      | exact ih1 _ _ _ _ _
      | exact ih2 _ _ _
      | exact LeO.none _
      | refine LeO.ite ?_ ?_
      | refine LeO.bind ?_ (fun _ => ?_)
set_option maxHeartbeats 8000000 in
set_option maxRecDepth 100000 in
theorem winnowerref02_Unpack_p.calls (k : Nat) (A0 : Option Addr) (c0 : Nat) (l0 : List Int) (a1 : Int) (a2 : Int) (r1 : List Int) (r2 : Int) (w : World) (hr0 : Kd.C (Kd.int .u8) w A0 l0.length l0) (hc0 : l0.length ≤ c0) (h : winnowerref02_Unpack_p.f k l0 a1 a2 = some (r1, r2)) :
    Calls Try.prog 16 #[.slice A0 l0.length c0, .int .i64 a1, .int .i64 a2] w fun e w' => ∃ v0_ : Value, e = .returned (.tuple #[v0_, .int .i64 r2]) ∧ Kd.R (Kd.int .i64) 3 w' w.heap.size (fun _ => True) v0_ r1 ∧ Below w.heap.size w w' := by
  have HR0 := Aside0.mk hr0
  have HC0 := Aside0.mk hc0
  clear hr0 hc0
  have HB := Aside0.mk (Below.refl w.heap.size w)
  have H : (if a2 < 0 then (winnowerref02_Unpack_p.j0 k l0 a1 a2 true) else (if a2 > 62 then (winnowerref02_Unpack_p.j0 k l0 a1 a2 true) else (winnowerref02_Unpack_p.j0 k l0 a1 a2 (decide (a1 < 0))))) = some (r1, r2) := h
  clear h
  have HC4 := Aside0.mk H
  clear H
  go_enter Try.func16, Try.ntmps16
  go_upto_region 1 with (fail)
  go_cut [21] (fun v21 wc => ∃ (kq : Nat) (x21_3 : Bool), v21 = .bool x21_3 ∧ Aside0 (winnowerref02_Unpack_p.j0 kq l0 a1 a2 x21_3 = some (r1, r2)) ∧ Aside0 (kq ≤ k) ∧ Aside0 (Below w.heap.size w wc))
  case first =>
    have H := HC4.out
    clear HC4
    by_cases c5 : a2 < 0
    · rw [if_pos c5] at H
      have c5b0 : decide (a2 < 0) = true := decide_eq_true c5
      clear c5
      (first | rw [c5b0] | (simp only [i64_w, i32_w]; rw [c5b0]) | skip)
      have H' := Aside0.mk H
      clear H
      go_wp2
      go_meet
      case rel => exact ⟨_, (true), (by first | rfl | (simp; done) | (simp [*]; done)), H', ⟨by first | omega | exact Nat.le_refl _⟩, ⟨by repeat (first | (with_reducible first | exact HB.out | apply below_alloc | apply pw_below_drewN | apply below_drew1) | exact HB.out)⟩⟩
    · rw [if_neg c5] at H
      have c5b0 : decide (a2 < 0) = false := decide_eq_false c5
      clear c5
      (first | rw [c5b0] | (simp only [i64_w, i32_w]; rw [c5b0]) | skip)
      by_cases c6 : a2 > 62
      · rw [if_pos c6] at H
        have c6b0 : decide (62 < a2) = true := decide_eq_true c6
        clear c6
        have H' := Aside0.mk H
        clear H
        go_wp2
        go_meet
        case rel => exact ⟨_, (true), (by first | rfl | (simp; done) | (simp [*]; done)), H', ⟨by first | omega | exact Nat.le_refl _⟩, ⟨by repeat (first | (with_reducible first | exact HB.out | apply below_alloc | apply pw_below_drewN | apply below_drew1) | exact HB.out)⟩⟩
      · rw [if_neg c6] at H
        have c6b0 : decide (62 < a2) = false := decide_eq_false c6
        clear c6
        have H' := Aside0.mk H
        clear H
        go_wp2
        go_meet
        case rel => exact ⟨_, (decide (a1 < 0)), (by first | rfl | (simp; done) | (simp [*]; done)), H', ⟨by first | omega | exact Nat.le_refl _⟩, ⟨by repeat (first | (with_reducible first | exact HB.out | apply below_alloc | apply pw_below_drewN | apply below_drew1) | exact HB.out)⟩⟩
  case rest =>
    clear HC4
    try clear c1
    try clear p2
    try clear c5
    try clear c5b0
    try clear c6
    try clear c6b0
    obtain ⟨kq, x21_3, rfl, HA, HJ3, HB⟩ := hcut
    cases kq with
    | zero => exact absurd HA.out (by simp [winnowerref02_Unpack_p.j0])
    | succ kj3 =>
      have H := HA.out
      clear HA
      simp only [winnowerref02_Unpack_p.j0] at H
      by_cases c7 : x21_3 = true
      · subst c7
        have H1 : (some (([] : List Int), 1)) = some (r1, r2) := by rw [if_pos rfl] at H; exact H
        clear H
        have H := H1
        clear H1
        simp only [Option.some.injEq, Prod.mk.injEq] at H
        obtain ⟨rfl, rfl⟩ := H
        go_wp2
        go_ret2
        exact ⟨_, by first | rfl | (simp [errW_none, errW_some] <;> rfl) | (simp [*, errW_none, errW_some] <;> rfl), by first | exact Kd.R_nil _ _ _ _ _ | exact Kd.N_nil _ _ _ _ _ | exact Kd.V_nil _ _ _ _ _ | exact Kd.Q_nil _ _ _ _ _ | exact Kd.S_nil _ _ _ _ _, by repeat (first | (with_reducible first | exact HB.out | apply below_alloc | apply pw_below_drewN | apply below_drew1) | exact HB.out)⟩
      · replace c7 := Bool.eq_false_iff.mpr c7
        subst c7
        have H1 : (if a1 > 4096 then (some (([] : List Int), 2)) else (if (wrap64 (8 * (l0.length : Int))) < (wrap64 (a1 * a2)) then (some (([] : List Int), 6)) else (if (l0.length : Int) > (wrap64 (Int.tdiv (wrap64 ((wrap64 (a1 * a2)) + 7)) 8)) then (some (([] : List Int), 7)) else ((winnowerref02_spread.f l0).bind fun t149 => (winnowerref02_Unpack_p.l0 kj3 a1 a2 t149 ([] : List Int) 0))))) = some (r1, r2) := by rw [if_neg (show ¬ (false = true) by decide)] at H; exact H
        clear H
        have H := H1
        clear H1
        by_cases c8 : a1 > 4096
        · rw [if_pos c8] at H
          have c8b0 : decide (4096 < a1) = true := decide_eq_true c8
          clear c8
          simp only [Option.some.injEq, Prod.mk.injEq] at H
          obtain ⟨rfl, rfl⟩ := H
          go_wp2
          go_ret2
          exact ⟨_, by first | rfl | (simp [errW_none, errW_some] <;> rfl) | (simp [*, errW_none, errW_some] <;> rfl), by first | exact Kd.R_nil _ _ _ _ _ | exact Kd.N_nil _ _ _ _ _ | exact Kd.V_nil _ _ _ _ _ | exact Kd.Q_nil _ _ _ _ _ | exact Kd.S_nil _ _ _ _ _, by repeat (first | (with_reducible first | exact HB.out | apply below_alloc | apply pw_below_drewN | apply below_drew1) | exact HB.out)⟩
        · rw [if_neg c8] at H
          have c8b0 : decide (4096 < a1) = false := decide_eq_false c8
          clear c8
          by_cases c9 : (wrap64 (8 * (l0.length : Int))) < (wrap64 (a1 * a2))
          · rw [if_pos c9] at H
            have c9b0 : decide ((wrap64 (8 * (l0.length : Int))) < (wrap64 (a1 * a2))) = true := decide_eq_true c9
            clear c9
            simp only [Option.some.injEq, Prod.mk.injEq] at H
            obtain ⟨rfl, rfl⟩ := H
            go_wp2
            go_ret2
            exact ⟨_, by first | rfl | (simp [errW_none, errW_some] <;> rfl) | (simp [*, errW_none, errW_some] <;> rfl), by first | exact Kd.R_nil _ _ _ _ _ | exact Kd.N_nil _ _ _ _ _ | exact Kd.V_nil _ _ _ _ _ | exact Kd.Q_nil _ _ _ _ _ | exact Kd.S_nil _ _ _ _ _, by repeat (first | (with_reducible first | exact HB.out | apply below_alloc | apply pw_below_drewN | apply below_drew1) | exact HB.out)⟩
          · rw [if_neg c9] at H
            have c9b0 : decide ((wrap64 (8 * (l0.length : Int))) < (wrap64 (a1 * a2))) = false := decide_eq_false c9
            clear c9
            by_cases c10 : (l0.length : Int) > (wrap64 (Int.tdiv (wrap64 ((wrap64 (a1 * a2)) + 7)) 8))
            · rw [if_pos c10] at H
              have c10b0 : decide ((wrap64 (Int.tdiv (wrap64 ((wrap64 (a1 * a2)) + 7)) 8)) < (l0.length : Int)) = true := decide_eq_true c10
              clear c10
              simp only [Option.some.injEq, Prod.mk.injEq] at H
              obtain ⟨rfl, rfl⟩ := H
              go_wp2
              go_ret2
              exact ⟨_, by first | rfl | (simp [errW_none, errW_some] <;> rfl) | (simp [*, errW_none, errW_some] <;> rfl), by first | exact Kd.R_nil _ _ _ _ _ | exact Kd.N_nil _ _ _ _ _ | exact Kd.V_nil _ _ _ _ _ | exact Kd.Q_nil _ _ _ _ _ | exact Kd.S_nil _ _ _ _ _, by repeat (first | (with_reducible first | exact HB.out | apply below_alloc | apply pw_below_drewN | apply below_drew1) | exact HB.out)⟩
            · rw [if_neg c10] at H
              have c10b0 : decide ((wrap64 (Int.tdiv (wrap64 ((wrap64 (a1 * a2)) + 7)) 8)) < (l0.length : Int)) = false := decide_eq_false c10
              clear c10
              replace H := Option.bind_eq_some_iff.mp H
              obtain ⟨t149, A110, H⟩ := H
              replace H : (winnowerref02_Unpack_p.l0 kj3 a1 a2 t149 ([] : List Int) 0) = some (r1, r2) := H
              have A11 := Aside0.mk A110
              clear A110
              have H' := Aside0.mk H
              clear H
              go_wp2_with (first | ((with_reducible refine gate_callee (f := 28) rfl ?_); refine goesL_ (some 40) rfl rfl Try.func28 (by kernel_rfl) rfl #[.slice A0 l0.length c0] rfl (by (try simp only [List.map_toArray, List.map_cons, List.map_nil]); first | done | rfl | (simp only [List.length_drop, List.length_take]; rfl)) ?_; (with_reducible refine (winnowerref02_spread.calls _ _ l0 t149 _ ?side1 ?side2 A11.out).mono ?_); (case side1 => repeat (first | exact (Kd.C_below HR0.out HB.out) | (with_reducible refine Kd.C_alloc ?_ _) | (with_reducible refine Kd.C_drewN ?_ _) | (with_reducible refine Kd.C_drew ?_))); (case side2 => exact HC0.out); rintro e w12 ⟨v150, rfl, ho0, hb⟩; refine ⟨_, rfl, ?_⟩; have n0_ := Aside0.mk (Kd.R_lower ho0 (below_size (by repeat (first | (with_reducible first | exact HB.out | apply below_alloc | apply pw_below_drewN | apply below_drew1) | exact HB.out)))); have n1_ := Aside0.mk (below_step (by repeat (first | (with_reducible first | exact HB.out | apply below_alloc | apply pw_below_drewN | apply below_drew1) | exact HB.out)) hb); clear HB; have HO151 := n0_; have HB := n1_; clear n0_ n1_; (try clear hb); (try clear hb2); (try clear hk); (try clear hi); (try clear ho0)))
              go_loopg [9, 10] kj3 (fun kq v9 v10 w' => ∃ (x9_2 : List Int) (x10_2 : Int), v10 = .int .i64 x10_2 ∧ Aside0 (winnowerref02_Unpack_p.l0 kq a1 a2 t149 x9_2 x10_2 = some (r1, r2)) ∧ Aside0 (kq ≤ kj3) ∧ Aside0 (Kd.R (Kd.int .i64) 3 w' w.heap.size (fun k_ => some k_ ≠ (v9 : Value).ownBlock) v150 t149) ∧ Aside0 (Kd.R (Kd.int .i64) 3 w' w.heap.size (fun k_ => some k_ ≠ (v150 : Value).ownBlock) v9 x9_2) ∧ Aside0 (Below w.heap.size w w'))
              case atStart => exact ⟨(([] : List Int)), (0), (by first | rfl | (simp; done) | (simp [*]; done)), H', ⟨Nat.le_refl _⟩, ⟨by (with_reducible repeat (first | apply Kd.R_alloc | apply Kd.R_drewN | apply Kd.R_drew)); exact Kd.R_mono HO151.out (fun _ hk => (by simp [Value.ownBlock]))⟩, ⟨by first | exact Kd.R_nil _ _ _ _ _ | exact Kd.N_nil _ _ _ _ _ | exact Kd.V_nil _ _ _ _ _ | exact Kd.Q_nil _ _ _ _ _ | exact Kd.S_nil _ _ _ _ _⟩, ⟨by repeat (first | (with_reducible first | exact HB.out | apply below_alloc | apply pw_below_drewN | apply below_drew1) | exact HB.out)⟩⟩
              case round =>
                clear H'
                try clear c1
                try clear c2
                try clear p2
                try clear c5
                try clear c5b0
                try clear c6
                try clear c6b0
                try clear p6
                try clear c7
                try clear c8
                try clear c8b0
                try clear c9
                try clear c9b0
                try clear c10
                try clear c10b0
                try clear p2
                obtain ⟨x9_2, x10_2, rfl, HA, HK2, HO_8, HO_9, HB⟩ := hrel
                cases gk with
                | zero => exact absurd HA.out (by simp [winnowerref02_Unpack_p.l0])
                | succ k2 =>
                  have H := HA.out
                  clear HA
                  simp only [winnowerref02_Unpack_p.l0] at H
                  by_cases c13 : x10_2 < a1
                  · rw [if_pos c13] at H
                    have c13b0 : decide (x10_2 < a1) = true := decide_eq_true c13
                    clear c13
                    obtain ⟨ji14, hji14⟩ : ∃ j_ : Int, (wrap64 (x10_2 * a2)) = j_ := ⟨_, rfl⟩
                    replace H : (if 0 ≤ (ji14) then (if (ji14) ≤ (wrap64 ((wrap64 (x10_2 + 1)) * a2)) then (if (wrap64 ((wrap64 (x10_2 + 1)) * a2)) ≤ (t149.length : Int) then ((winnowerref02_value.f ((t149.take ((wrap64 ((wrap64 (x10_2 + 1)) * a2)) : Int).toNat).drop ((ji14) : Int).toNat)).bind fun t156 => (if x9_2.length < 17592186044416 then (winnowerref02_Unpack_p.l0 k2 a1 a2 t149 (x9_2 ++ [t156]) (wrap64 (x10_2 + 1))) else (none))) else (none)) else (none)) else (none)) = some (r1, r2) := by first | (rw [hji14] at H; exact H) | (simp only [hji14] at H ⊢; exact H)
                    have hji14w : (IntKind.i64.wrap (x10_2 * a2)) = ji14 := (i64_w _).trans hji14
                    by_cases c15 : 0 ≤ (ji14)
                    · rw [if_pos c15] at H
                      have c15b0 := eq_true c15
                      have c15b1 : decide (0 ≤ (ji14)) = true := decide_eq_true c15
                      clear c15
                      by_cases c16 : (ji14) ≤ (wrap64 ((wrap64 (x10_2 + 1)) * a2))
                      · rw [if_pos c16] at H
                        have c16b0 := eq_true c16
                        have c16b1 : decide ((ji14) ≤ (wrap64 ((wrap64 (x10_2 + 1)) * a2))) = true := decide_eq_true c16
                        by_cases c17 : (wrap64 ((wrap64 (x10_2 + 1)) * a2)) ≤ (t149.length : Int)
                        · rw [if_pos c17] at H
                          have c17b0 := eq_true c17
                          have c17b1 : decide ((wrap64 ((wrap64 (x10_2 + 1)) * a2)) ≤ (t149.length : Int)) = true := decide_eq_true c17
                          obtain ⟨y152, hy152⟩ : ∃ y_ : List Int, y_ = ((t149.take ((wrap64 ((wrap64 (x10_2 + 1)) * a2)) : Int).toNat).drop ((ji14) : Int).toNat) := ⟨_, rfl⟩
                          replace H : ((winnowerref02_value.f y152).bind fun t156 => (if x9_2.length < 17592186044416 then (winnowerref02_Unpack_p.l0 k2 a1 a2 t149 (x9_2 ++ [t156]) (wrap64 (x10_2 + 1))) else (none))) = some (r1, r2) := by first | (rw [hy152]; with_reducible exact H) | (have H2_ := (Option.bind_some _ _).symm.trans H; rw [hy152]; with_reducible exact H2_) | (have H2_ := (Option.bind_some _ _).symm.trans H; with_reducible exact H2_) | with_reducible exact H | (rw [hy152]; exact H) | exact H
                          have Ny152 := Aside0.mk hy152
                          clear hy152
                          replace H := Option.bind_eq_some_iff.mp H
                          obtain ⟨t156, A180, H⟩ := H
                          replace H : (if x9_2.length < 17592186044416 then (winnowerref02_Unpack_p.l0 k2 a1 a2 t149 (x9_2 ++ [t156]) (wrap64 (x10_2 + 1))) else (none)) = some (r1, r2) := H
                          have A18 := Aside0.mk A180
                          clear A180
                          by_cases c19 : x9_2.length < 17592186044416
                          · rw [if_pos c19] at H
                            have LMc19 := Aside0.mk c19
                            clear c19
                            obtain ⟨y157, hy157⟩ : ∃ y_ : List Int, y_ = (x9_2 ++ [t156]) := ⟨_, rfl⟩
                            replace H : (winnowerref02_Unpack_p.l0 k2 a1 a2 t149 y157 (wrap64 (x10_2 + 1))) = some (r1, r2) := by first | (rw [hy157]; with_reducible exact H) | (have H2_ := (Option.bind_some _ _).symm.trans H; rw [hy157]; with_reducible exact H2_) | (have H2_ := (Option.bind_some _ _).symm.trans H; with_reducible exact H2_) | with_reducible exact H | (rw [hy157]; exact H) | exact H
                            have Ny157 := Aside0.mk hy157
                            clear hy157
                            have H' := Aside0.mk H
                            clear H
                            obtain ⟨Ao21, co21, eo21⟩ := Kd.R_slice HO_8.out
                            subst eo21
                            have q20 : ((wrap64 ((wrap64 (x10_2 + 1)) * a2)) : Int) ≤ ((t149.length : Int) : Int) := of_decide_eq_true (by first | (with_reducible assumption) | assumption)
                            obtain ⟨i020, hi020, _, hsz20, _⟩ := info_parts info3
                            have hroom20 : t149.length ≤ co21 := (Kd.R_reads' HO_8.out).2.1
                            have hC20 : Kd.C (Kd.int .i64) _ Ao21 t149.length t149 := (Kd.R_reads' HO_8.out).2.2
                            have ql20 : ((ji14) : Int) ≤ ((wrap64 ((wrap64 (x10_2 + 1)) * a2)) : Int) := of_decide_eq_true (by first | (with_reducible assumption) | assumption)
                            have q020 : (0 : Int) ≤ ((ji14) : Int) := of_decide_eq_true (by first | (with_reducible assumption) | assumption)
                            have hcut20 := cut_mid (P := Try.prog) 22 3 .i64 .i64 Try.underlying22 hi020 1 hsz20 Ao21 t149.length co21 (ji14) (wrap64 ((wrap64 (x10_2 + 1)) * a2)) q020 ql20 q20 hroom20
                            have hr20 := Kd.C_mid (lo := ((ji14) : Int).toNat) (hi := ((wrap64 ((wrap64 (x10_2 + 1)) * a2)) : Int).toNat) (c := co21) hC20 (by omega) (by omega) hroom20
                            obtain ⟨A20, hA20⟩ : ∃ A1, A1 = (if co21 = ((ji14) : Int).toNat then Ao21 else (Ao21 : Option Addr).map (·.add (((ji14) : Int).toNat * 1))) := ⟨_, rfl⟩
                            obtain ⟨c20, hc20⟩ : ∃ c1, c1 = co21 - ((ji14) : Int).toNat := ⟨_, rfl⟩
                            have hy20 : y152.length = ((wrap64 ((wrap64 (x10_2 + 1)) * a2)) : Int).toNat - ((ji14) : Int).toNat := (by rw [Ny152.out, List.length_drop, List.length_take] <;> omega)
                            rw [show ((t149).take ((wrap64 ((wrap64 (x10_2 + 1)) * a2)) : Int).toNat).drop ((ji14) : Int).toNat = y152 from Ny152.out.symm] at hr20
                            replace hr20 : Kd.C (Kd.int .i64) _ A20 y152.length y152 := (by rw [hA20]; exact hr20)
                            rw [← hy20, ← hA20, ← hc20] at hcut20
                            have HR155 := Aside0.mk hr20
                            have HC155 := Aside0.mk (show y152.length ≤ c20 from by rw [hy20, hc20]; exact Nat.sub_le_sub_right (Nat.le_trans (by omega) hroom20) _)
                            clear hr20 hC20 hroom20 hi020 hsz20 hc20
                            have KY20 := Aside0.mk hy20
                            have KA20 := Aside0.mk hA20
                            clear hy20 hA20
                            have KL20 := Aside0.mk (show ((wrap64 ((wrap64 (x10_2 + 1)) * a2)) : Int).toNat ≤ t149.length from by omega)
                            have KM20 := Aside0.mk (show ((ji14) : Int).toNat ≤ ((wrap64 ((wrap64 (x10_2 + 1)) * a2)) : Int).toNat from by omega)
                            replace q20 := eq_true q20
                            go_wp2_with (first | ((with_reducible refine gate_callee (f := 25) rfl ?_); refine goesL_ (some 56) rfl rfl Try.func25 (by kernel_rfl) rfl #[.slice A20 y152.length c20] rfl (by (try simp only [List.map_toArray, List.map_cons, List.map_nil]); first | done | rfl | (simp only [List.length_drop, List.length_take]; rfl)) ?_; (with_reducible refine (winnowerref02_value.calls _ _ y152 t156 _ ?side1 ?side2 A18.out).mono ?_); (case side1 => repeat (first | exact (by repeat (first | (with_reducible exact HR155.out) | (with_reducible refine Kd.C_alloc ?_ _) | (with_reducible refine Kd.C_drewN ?_ _) | (with_reducible refine Kd.C_drew ?_) | exact HR155.out)) | (with_reducible refine Kd.C_alloc ?_ _) | (with_reducible refine Kd.C_drewN ?_ _) | (with_reducible refine Kd.C_drew ?_))); (case side2 => exact HC155.out); rintro e w' ⟨rfl, ⟨nd, rfl⟩⟩; refine ⟨_, rfl, ?_⟩) | ((with_reducible refine gate_builtin (b := .append) (xs := #[.tmp 46, .tmp 57]) rfl ?_); at_builtin; refine Kd.R_append (Kd.int .i64) (w0 := w) w.heap.size rfl (.tmp 46) (.tmp 57) 22 3 (.int .i64 0) 8 rfl Try.underlying22 info3 rfl (by decide) (by omega) u9 x9_2 t156 [.int .i64 t156] (fun k_ => some k_ ≠ (.slice Ao21 t149.length co21 : Value).ownBlock) (fun _ => False) rfl rfl ?aP (fun _ hk => hk.elim) ?aF ?aO ?aB ?aS ?aL ?_; (case aP => exact rfl); (case aB => exact (by repeat (first | (with_reducible first | exact HB.out | apply below_alloc | apply pw_below_drewN | apply below_drew1) | exact HB.out))); (case aF => exact (fun k_ hk => Kd.fresh' (Kd.R_lt (by (with_reducible repeat (first | apply Kd.R_alloc | apply Kd.R_drewN | apply Kd.R_drew)); exact HO_8.out)) k_ hk)); (case aO => exact (by (with_reducible repeat (first | apply Kd.R_alloc | apply Kd.R_drewN | apply Kd.R_drew)); exact HO_9.out)); (case aS => exact (below_size (by repeat (first | (with_reducible first | exact HB.out | apply below_alloc | apply pw_below_drewN | apply below_drew1) | exact HB.out)))); (case aL => have := LMc19.out; omega); intro v158 w22 ho hb hg hat; rw [← Ny157.out] at ho; have n0_ := Aside0.mk (Kd.R_after (ok := (fun _ => True)) (by (with_reducible repeat (first | apply Kd.R_alloc | apply Kd.R_drewN | apply Kd.R_drew)); exact Kd.R_mono HO_8.out (fun _ hk => ⟨trivial, hk⟩)) hg hat); have n1_ := Aside0.mk (hb); have n2_ := Aside0.mk ((show Kd.C (Kd.int .i64) w22 A20 y152.length y152 from by rw [Ny152.out, KA20.out]; exact Kd.C_mid (lo := ((ji14) : Int).toNat) (hi := ((wrap64 ((wrap64 (x10_2 + 1)) * a2)) : Int).toNat) (c := co21) ((Kd.R_reads' (Kd.R_after (ok := (fun _ => True)) (by (with_reducible repeat (first | apply Kd.R_alloc | apply Kd.R_drewN | apply Kd.R_drew)); exact Kd.R_mono HO_8.out (fun _ hk => ⟨trivial, hk⟩)) hg hat)).2.2) KM20.out KL20.out ((Kd.R_reads' (Kd.R_after (ok := (fun _ => True)) (by (with_reducible repeat (first | apply Kd.R_alloc | apply Kd.R_drewN | apply Kd.R_drew)); exact Kd.R_mono HO_8.out (fun _ hk => ⟨trivial, hk⟩)) hg hat)).2.1))); have n3_ := Aside0.mk (ho); clear HO_8; clear HB; clear HR155; clear HO_9; have HO_8 := n0_; have HB := n1_; have HR155 := n2_; have HO159 := n3_; clear n0_ n1_ n2_ n3_; clear ho hb hg hat))
                            go_roundg k2
                            case measure => have := HJ3.out; have := HK2.out; omega
                            case rel => exact ⟨(y157), (wrap64 (x10_2 + 1)), (by first | rfl | (simp; done) | (simp [*]; done)), H', ⟨by have := HJ3.out; have := HK2.out; omega⟩, ⟨by (with_reducible repeat (first | apply Kd.R_alloc | apply Kd.R_drewN | apply Kd.R_drew)); exact Kd.R_mono HO_8.out (fun _ hk => hk.2)⟩, ⟨by (with_reducible repeat (first | apply Kd.R_alloc | apply Kd.R_drewN | apply Kd.R_drew)); exact HO159.out⟩, ⟨by repeat (first | (with_reducible first | exact HB.out | apply below_alloc | apply pw_below_drewN | apply below_drew1) | exact HB.out)⟩⟩
                          · rw [if_neg c19] at H
                            exact absurd H (by simp)
                        · rw [if_neg c17] at H
                          exact absurd H (by simp)
                      · rw [if_neg c16] at H
                        exact absurd H (by simp)
                    · rw [if_neg c15] at H
                      exact absurd H (by simp)
                  · rw [if_neg c13] at H
                    have c13b0 : decide (x10_2 < a1) = false := decide_eq_false c13
                    clear c13
                    have H' := Aside0.mk H
                    clear H
                    go_wp2
                    go_loopg [11] k2 (fun kq v11 w' => ∃ (x11_3 : Int), v11 = .int .i64 x11_3 ∧ Aside0 (winnowerref02_Unpack_p.l1 kq t149 x9_2 x11_3 = some (r1, r2)) ∧ Aside0 (kq ≤ k2) ∧ Aside0 (Kd.R (Kd.int .i64) 3 w' w.heap.size (fun k_ => some k_ ≠ (u9 : Value).ownBlock) v150 t149) ∧ Aside0 (Kd.R (Kd.int .i64) 3 w' w.heap.size (fun k_ => some k_ ≠ (v150 : Value).ownBlock) u9 x9_2) ∧ Aside0 (Below w.heap.size w w'))
                    case atStart => exact ⟨(wrap64 (a1 * a2)), (by first | rfl | (simp; done) | (simp [*]; done)), H', ⟨Nat.le_refl _⟩, ⟨by (with_reducible repeat (first | apply Kd.R_alloc | apply Kd.R_drewN | apply Kd.R_drew)); exact HO_8.out⟩, ⟨by (with_reducible repeat (first | apply Kd.R_alloc | apply Kd.R_drewN | apply Kd.R_drew)); exact HO_9.out⟩, ⟨by repeat (first | (with_reducible first | exact HB.out | apply below_alloc | apply pw_below_drewN | apply below_drew1) | exact HB.out)⟩⟩
                    case round =>
                      clear H'
                      try clear c1
                      try clear c2
                      try clear p2
                      try clear q2
                      try clear c5
                      try clear c5b0
                      try clear c6
                      try clear c6b0
                      try clear p6
                      try clear c7
                      try clear c8
                      try clear c8b0
                      try clear c9
                      try clear c9b0
                      try clear c10
                      try clear c10b0
                      try clear c13
                      try clear c13b0
                      try clear c15
                      try clear c15b0
                      try clear c15b1
                      try clear c16
                      try clear c16b0
                      try clear c16b1
                      try clear c17
                      try clear c17b0
                      try clear c17b1
                      try clear c19
                      try clear c20
                      try clear q20
                      try clear p2
                      try clear p6
                      try clear q020
                      try clear q20
                      obtain ⟨x11_3, rfl, HA, HK3, HO_8, HO_9, HB⟩ := hrel
                      cases gk with
                      | zero => exact absurd HA.out (by simp [winnowerref02_Unpack_p.l1])
                      | succ k3 =>
                        have H := HA.out
                        clear HA
                        simp only [winnowerref02_Unpack_p.l1] at H
                        by_cases c23 : x11_3 < (t149.length : Int)
                        · rw [if_pos c23] at H
                          have c23b0 : decide (x11_3 < (t149.length : Int)) = true := decide_eq_true c23
                          clear c23
                          by_cases c24 : 0 ≤ x11_3
                          · rw [if_pos c24] at H
                            have c24b0 : decide (0 ≤ x11_3) = true := decide_eq_true c24
                            clear c24
                            by_cases c25 : (rd t149 x11_3) = 0
                            · rw [if_pos c25] at H
                              have c25b0 : ((rd t149 x11_3) == 0) = true := beq_iff_eq.mpr c25
                              have c25b1 : ((rd t149 x11_3) != 0) = false := bne_eq_false_iff_eq.mpr c25
                              clear c25
                              have H' := Aside0.mk H
                              clear H
                              obtain ⟨Ao26, co26, eo26⟩ := Kd.R_slice HO_8.out
                              subst eo26
                              have p160 : 0 ≤ (x11_3 : Int) := of_decide_eq_true (by first | (with_reducible assumption) | assumption)
                              have q160 : x11_3 < (t149.length : Int) := of_decide_eq_true (by first | (with_reducible assumption) | assumption)
                              obtain ⟨ad160, e160, hx160_0⟩ := Kd.at_int (Kd.R_reads' HO_8.out).2.2 x11_3 p160 q160
                              cases e160
                              replace p160 := eq_true p160
                              replace q160 := eq_true q160
                              go_wp2
                              go_roundg k3
                              case measure => have := HJ3.out; have := HK2.out; have := HK3.out; omega
                              case rel => exact ⟨(wrap64 (x11_3 + 1)), (by first | rfl | (simp; done) | (simp [*]; done)), H', ⟨by have := HJ3.out; have := HK2.out; have := HK3.out; omega⟩, ⟨by (with_reducible repeat (first | apply Kd.R_alloc | apply Kd.R_drewN | apply Kd.R_drew)); exact HO_8.out⟩, ⟨by (with_reducible repeat (first | apply Kd.R_alloc | apply Kd.R_drewN | apply Kd.R_drew)); exact HO_9.out⟩, ⟨by repeat (first | (with_reducible first | exact HB.out | apply below_alloc | apply pw_below_drewN | apply below_drew1) | exact HB.out)⟩⟩
                            · rw [if_neg c25] at H
                              have c25b0 : ((rd t149 x11_3) == 0) = false := beq_eq_false_iff_ne.mpr c25
                              have c25b1 : ((rd t149 x11_3) != 0) = true := bne_iff_ne.mpr c25
                              simp only [Option.some.injEq, Prod.mk.injEq] at H
                              obtain ⟨rfl, rfl⟩ := H
                              obtain ⟨Ao27, co27, eo27⟩ := Kd.R_slice HO_8.out
                              subst eo27
                              have p160 : 0 ≤ (x11_3 : Int) := of_decide_eq_true (by first | (with_reducible assumption) | assumption)
                              have q160 : x11_3 < (t149.length : Int) := of_decide_eq_true (by first | (with_reducible assumption) | assumption)
                              obtain ⟨ad160, e160, hx160_0⟩ := Kd.at_int (Kd.R_reads' HO_8.out).2.2 x11_3 p160 q160
                              cases e160
                              replace p160 := eq_true p160
                              replace q160 := eq_true q160
                              go_wp2
                              go_ret2
                              exact ⟨_, by first | rfl | (simp [errW_none, errW_some] <;> rfl) | (simp [*, errW_none, errW_some] <;> rfl), by first | exact Kd.R_nil _ _ _ _ _ | exact Kd.N_nil _ _ _ _ _ | exact Kd.V_nil _ _ _ _ _ | exact Kd.Q_nil _ _ _ _ _ | exact Kd.S_nil _ _ _ _ _, by repeat (first | (with_reducible first | exact HB.out | apply below_alloc | apply pw_below_drewN | apply below_drew1) | exact HB.out)⟩
                          · rw [if_neg c24] at H
                            exact absurd H (by simp)
                        · rw [if_neg c23] at H
                          have c23b0 : decide (x11_3 < (t149.length : Int)) = false := decide_eq_false c23
                          clear c23
                          simp only [Option.some.injEq, Prod.mk.injEq] at H
                          obtain ⟨rfl, rfl⟩ := H
                          obtain ⟨Ao28, co28, eo28⟩ := Kd.R_slice HO_8.out
                          subst eo28
                          go_wp2
                          go_ret2
                          exact ⟨_, by first | rfl | (simp [errW_none, errW_some] <;> rfl) | (simp [*, errW_none, errW_some] <;> rfl), by (with_reducible repeat (first | apply Kd.R_alloc | apply Kd.R_drewN | apply Kd.R_drew)); exact Kd.R_mono HO_9.out (fun _ hk => trivial), by repeat (first | (with_reducible first | exact HB.out | apply below_alloc | apply pw_below_drewN | apply below_drew1) | exact HB.out)⟩

-- BY HAND: Derived.Test.YthcbcddnillipaaHbitnum
/-! ### winnowerref02_Unpack: function 16 -/
-- HAND winnower/winnowerref02.Unpack over
-- IMPORT Derived.Test.YthcbcddnillipaaHbitnum
open Go.Proofs.Ythcbcddnillipaa.Hnum Go.Proofs.Ythcbcddnillipaa.Hbits Go.Proofs.Ythcbcddnillipaa.Hbitnum
theorem winnowerref02_Unpack.tail (all outs : List Int) (hb : Bits all) (hl : all.length ≤ 8000000) : ∀ (d i kq : Nat), i + d = all.length → d < kq → winnowerref02_Unpack_p.l1 kq all outs (i : Int) = some (if valB (all.drop i) = 0 then (outs, 0) else ([], 7)) := by
  intro d
  induction d with
  | zero =>
    intro i kq hi hq
    obtain ⟨q, rfl⟩ : ∃ m, kq = m + 1 := ⟨kq - 1, by omega⟩
    rw [winnowerref02_Unpack_p.l1, if_neg (by omega), List.drop_of_length_le (by omega)]
    rfl
  | succ d ih =>
    intro i kq hi hq
    obtain ⟨q, rfl⟩ : ∃ m, kq = m + 1 := ⟨kq - 1, by omega⟩
    have hlt : i < all.length := by omega
    have hx := hb _ (List.getElem_mem hlt)
    have e3 : wrap64 ((i : Int) + 1) = ((i + 1 : Nat) : Int) := by rw [wrap_id (by omega) (by omega)]; omega
    rw [winnowerref02_Unpack_p.l1, if_pos (by omega), if_pos (by omega), rd_get hlt, List.drop_eq_getElem_cons hlt, valB, e3]
    by_cases h0 : all[i] = 0
    · rw [if_pos h0, ih (i + 1) q (by omega) (by omega), h0]
      by_cases hv : valB (all.drop (i + 1)) = 0
      · rw [if_pos hv, if_pos (by omega)]
      · rw [if_neg hv, if_neg (by omega)]
    · rw [if_neg h0, if_neg (by omega)]
theorem winnowerref02_Unpack.tell (all : List Int) (n w : Nat) (hb : Bits all) (hn : n ≤ 4096) (hw : w ≤ 62) (hfit : n * w ≤ all.length) (hl : all.length ≤ 8000000) : ∀ (d i kq : Nat), i + d = n → d + all.length + 1 < kq →
    winnowerref02_Unpack_p.l0 kq (n : Int) (w : Int) all (outs w i (valB all)) (i : Int) = some (if 2 ^ (n * w) ≤ valB all then ([], 7) else (outs w n (valB all), 0)) := by
  intro d
  have hnw : n * w ≤ 4096 * 62 := Nat.mul_le_mul hn hw
  induction d with
  | zero =>
    intro i kq hi hq
    obtain ⟨q, rfl⟩ : ∃ m, kq = m + 1 := ⟨kq - 1, by omega⟩
    obtain rfl : i = n := by omega
    have e1 : wrap64 ((i : Int) * (w : Int)) = ((i * w : Nat) : Int) := by rw [show (i : Int) * (w : Int) = ((i * w : Nat) : Int) from by simp, wrap_id (by omega) (by omega)]
    rw [winnowerref02_Unpack_p.l0, if_neg (by omega), e1, winnowerref02_Unpack.tail all _ hb hl (all.length - i * w) (i * w) q (by omega) (by omega), valB_drop hb _ hfit]
    have hp : 0 < 2 ^ (i * w) := Nat.pow_pos (by decide)
    by_cases h : 2 ^ (i * w) ≤ valB all
    · have : 0 < valB all / 2 ^ (i * w) := Nat.div_pos h hp
      rw [if_pos h, if_neg (by omega)]
    · rw [if_neg h, if_pos (Nat.div_eq_of_lt (by omega))]
  | succ d ih =>
    intro i kq hi hq
    obtain ⟨q, rfl⟩ : ∃ m, kq = m + 1 := ⟨kq - 1, by omega⟩
    have hq2 : d + all.length + 1 < q := by omega
    have hi2 : i + 1 + d = n := by omega
    have hol : (outs w i (valB all)).length < 17592186044416 := by rw [outs_length]; omega
    have hin : (i : Int) < (n : Int) := by omega
    have hiw : (i + 1) * w ≤ n * w := Nat.mul_le_mul_right _ (by omega)
    have hs : (i + 1) * w = i * w + w := by rw [Nat.add_mul, Nat.one_mul]
    have hfit2 : i * w + w ≤ all.length := Nat.le_trans (by rw [← hs]; exact hiw) hfit
    have hlen : ((all.take (i * w + w)).drop (i * w)).length ≤ 62 := by
      rw [List.length_drop, List.length_take]
      have := Nat.min_le_left (i * w + w) all.length
      omega
    have hbits := (hb.take (i * w + w)).drop (i * w)
    have hv : winnowerref02_value.f ((all.take (i * w + w)).drop (i * w)) = some ((valB ((all.take (i * w + w)).drop (i * w)) : Nat) : Int) := if_pos ⟨hbits, hlen⟩
    have e1 : wrap64 ((i : Int) * (w : Int)) = ((i * w : Nat) : Int) := by rw [show (i : Int) * (w : Int) = ((i * w : Nat) : Int) from by simp, wrap_id (by omega) (by omega)]
    have e2 : wrap64 ((i : Int) + 1) = ((i + 1 : Nat) : Int) := by rw [wrap_id (by omega) (by omega)]; omega
    have hiw2 : i * w + w ≤ 2305843009213693952 := by rw [← hs]; exact Nat.le_trans hiw (Nat.le_trans hnw (by decide))
    have e3 : wrap64 (((i + 1 : Nat) : Int) * (w : Int)) = ((i * w + w : Nat) : Int) := by rw [← Int.natCast_mul, hs]; exact Go.Proofs.Ythcbcddnillipaa.Hbits.wrap_small hiw2
    have ho : outs w i (valB all) ++ [((valB ((all.take (i * w + w)).drop (i * w)) : Nat) : Int)] = outs w (i + 1) (valB all) := by
      rw [valB_cut hb hfit2]
      unfold outs
      rw [List.range_succ, List.map_append, List.map_singleton]
    rw [winnowerref02_Unpack_p.l0, if_pos hin, e1, e2, e3, if_pos (Int.natCast_nonneg _), if_pos (Int.ofNat_le.2 (Nat.le_add_right _ _)), if_pos (Int.ofNat_le.2 hfit2), Int.toNat_natCast, Int.toNat_natCast, hv, Option.bind_some, if_pos hol, ho]
    exact ih (i + 1) q hi2 hq2
def winnowerref02_Unpack.f (l0 : List Int) (a1 a2 : Int) : Option (List Int × Int) := if Bytes l0 ∧ l0.length ≤ 1000000 then some (unpackT l0 a1 a2) else none
theorem winnowerref02_Unpack.fits {l0 : List Int} {a1 a2 : Int} {r : List Int × Int} (_ : l0.length ≤ 9223372036854775807) (h : winnowerref02_Unpack.f l0 a1 a2 = some r) : ∃ k, winnowerref02_Unpack_p.f k l0 a1 a2 = some r := by
  unfold winnowerref02_Unpack.f at h
  by_cases hi : Bytes l0 ∧ l0.length ≤ 1000000
  · rw [if_pos hi] at h
    rw [← h]
    unfold unpackT
    by_cases hc : a2 < 0 ∨ 62 < a2 ∨ a1 < 0
    · refine ⟨1, ?_⟩
      rw [if_pos hc]
      unfold winnowerref02_Unpack_p.f
      by_cases h0 : a2 < 0
      · rw [if_pos h0, winnowerref02_Unpack_p.j0, if_pos rfl]
      · rw [if_neg h0]
        by_cases h1 : a2 > 62
        · rw [if_pos h1, winnowerref02_Unpack_p.j0, if_pos rfl]
        · rw [if_neg h1, winnowerref02_Unpack_p.j0, if_pos (decide_eq_true (by omega))]
    · rw [if_neg hc]
      obtain ⟨w, rfl⟩ := Int.eq_ofNat_of_zero_le (show 0 ≤ a2 by omega)
      obtain ⟨n, rfl⟩ := Int.eq_ofNat_of_zero_le (show 0 ≤ a1 by omega)
      rw [Int.toNat_natCast, Int.toNat_natCast]
      refine ⟨n + 8 * l0.length + 4, ?_⟩
      unfold unpackS winnowerref02_Unpack_p.f
      rw [if_neg (by omega), if_neg (by omega), winnowerref02_Unpack_p.j0, if_neg (by simp)]
      by_cases hn : 4096 < n
      · rw [if_pos hn, if_pos (by omega)]
      · have hnw : n * w ≤ 4096 * 62 := Nat.mul_le_mul (by omega) (by omega)
        have e1 : (n : Int) * (w : Int) = ((n * w : Nat) : Int) := by simp
        rw [if_neg hn, if_neg (by omega), e1]
        have hspread : winnowerref02_spread.f l0 = some (spreadB l0) := by unfold winnowerref02_spread.f; rw [if_pos hi]
        have hlen := spreadB_length l0
        have hval := spreadB_val hi.1
        have hl0 := hi.2
        generalize hq : n * w = q at hnw
        have e2 : wrap64 ((q : Int)) = (q : Int) := wrap_id (by omega) (by omega)
        have e3 : wrap64 (8 * (l0.length : Int)) = 8 * (l0.length : Int) := wrap_id (by omega) (by omega)
        have e4 : wrap64 (Int.tdiv (wrap64 ((q : Int) + 7)) 8) = ((bsize q : Nat) : Int) := by
          rw [wrap_id (x := (q : Int) + 7) (by omega) (by omega), Int.tdiv_eq_ediv_of_nonneg (by omega), wrap_id (by omega) (by omega)]
          unfold bsize; omega
        rw [e2, e3, e4]
        by_cases h6 : l0.length < bsize q
        · rw [if_pos h6, if_pos (by unfold bsize at h6; omega)]
        · rw [if_neg h6, if_neg (by unfold bsize at h6; omega)]
          by_cases h7 : bsize q < l0.length
          · rw [if_pos (show (l0.length : Int) > ((bsize q : Nat) : Int) from by omega), if_pos (show bsize q < l0.length ∨ 2 ^ q ≤ numN l0 from .inl h7)]
          · rw [if_neg (by omega), hspread, Option.bind_some]
            have := winnowerref02_Unpack.tell (spreadB l0) n w (spreadB_bits l0) (by omega) (by omega) (by rw [hlen, hq]; unfold bsize at h6; omega) (by omega) n 0 (n + 8 * l0.length + 3) (by omega) (by omega)
            rw [hval, hq] at this
            rw [show outs w 0 (numN l0) = ([] : List Int) from rfl] at this
            rw [show ((0 : Nat) : Int) = 0 from rfl] at this
            rw [this]
            by_cases h8 : 2 ^ q ≤ numN l0
            · rw [if_pos h8, if_pos (show bsize q < l0.length ∨ 2 ^ q ≤ numN l0 from .inr h8)]
            · rw [if_neg h8, if_neg (show ¬ (bsize q < l0.length ∨ 2 ^ q ≤ numN l0) from fun h => h.elim h7 h8)]
  · rw [if_neg hi] at h; cases h
theorem winnowerref02_Unpack.calls (A0 : Option Addr) (c0 : Nat) (l0 : List Int) (a1 : Int) (a2 : Int) (r1 : List Int) (r2 : Int) (w : World) (hr0 : Kd.C (Kd.int .u8) w A0 l0.length l0) (hc0 : l0.length ≤ c0) (h : winnowerref02_Unpack.f l0 a1 a2 = some (r1, r2)) :
    Calls Try.prog 16 #[.slice A0 l0.length c0, .int .i64 a1, .int .i64 a2] w fun e w' => ∃ v0_ : Value, e = .returned (.tuple #[v0_, .int .i64 r2]) ∧ Kd.R (Kd.int .i64) 3 w' w.heap.size (fun _ => True) v0_ r1 ∧ Below w.heap.size w w' := by
  obtain ⟨k, hk⟩ := winnowerref02_Unpack.fits hr0.2.1 h
  exact winnowerref02_Unpack_p.calls k A0 c0 l0 a1 a2 r1 r2 w hr0 hc0 hk


/-! ### winnowerref02_At_p: function 19 -/
def winnowerref02_At_p.j0 : Nat → List Int → Int → Int → Bool → Option (Int)
  | 0, _, _, _, _ => none
  | k + 1, x0, x1, x2, x30 => if x30 = true then (some 0) else ((winnowerref02_spread.f x0).bind fun t161 => (if 0 ≤ (wrap64 (x1 * x2)) then (if (wrap64 (x1 * x2)) ≤ (wrap64 ((wrap64 (x1 + 1)) * x2)) then (if (wrap64 ((wrap64 (x1 + 1)) * x2)) ≤ (t161.length : Int) then ((winnowerref02_value.f ((t161.take ((wrap64 ((wrap64 (x1 + 1)) * x2)) : Int).toNat).drop ((wrap64 (x1 * x2)) : Int).toNat)).bind fun t168 => (some t168)) else (none)) else (none)) else (none)))
def winnowerref02_At_p.f (k : Nat) (l0 : List Int) (a1 : Int) (a2 : Int) : Option (Int) := if a2 < 1 then (winnowerref02_At_p.j0 k l0 a1 a2 true) else (if a2 > 62 then (winnowerref02_At_p.j0 k l0 a1 a2 true) else (if a1 < 0 then (winnowerref02_At_p.j0 k l0 a1 a2 true) else (if a1 > 1099511627776 then (winnowerref02_At_p.j0 k l0 a1 a2 true) else (winnowerref02_At_p.j0 k l0 a1 a2 (decide ((wrap64 ((wrap64 (a1 + 1)) * a2)) > (wrap64 (8 * (l0.length : Int)))))))))
theorem winnowerref02_At_p.mono_l : ∀ k, (∀ y0 y1 y2 y3, LeO (winnowerref02_At_p.j0 k y0 y1 y2 y3) (winnowerref02_At_p.j0 (k + 1) y0 y1 y2 y3))
  | 0 => fun _ _ _ _ r h => by simp [winnowerref02_At_p.j0] at h
  | k + 1 => by
    have ih0 := winnowerref02_At_p.mono_l k
    · intro y0 y1 y2 y3
      unfold winnowerref02_At_p.j0
      repeat' first
      | (with_reducible exact ih0 _ _ _ _)
      | (with_reducible exact LeO.refl _)
      | (with_reducible exact LeO.none _)
      | (with_reducible refine LeO.ite ?_ ?_)
      | (with_reducible refine LeO.bind ?_ (fun _ => ?_))
      | exact ih0 _ _ _ _
      | exact LeO.none _
      | refine LeO.ite ?_ ?_
      | refine LeO.bind ?_ (fun _ => ?_)
theorem winnowerref02_At_p.mono : ∀ a0 a1 a2 k, LeO (winnowerref02_At_p.f k a0 a1 a2) (winnowerref02_At_p.f (k + 1) a0 a1 a2) := by
  intro a0 a1 a2 k
  have ih0 := winnowerref02_At_p.mono_l k
  unfold winnowerref02_At_p.f
  repeat' first
      | (with_reducible exact ih0 _ _ _ _)
      | (with_reducible exact LeO.refl _)
      | (with_reducible exact LeO.none _)
      | (with_reducible refine LeO.ite ?_ ?_)
      | (with_reducible refine LeO.bind ?_ (fun _ => ?_))
      | exact ih0 _ _ _ _
      | exact LeO.none _
      | refine LeO.ite ?_ ?_
      | refine LeO.bind ?_ (fun _ => ?_)
set_option maxHeartbeats 8000000 in
set_option maxRecDepth 100000 in
theorem winnowerref02_At_p.calls (k : Nat) (A0 : Option Addr) (c0 : Nat) (l0 : List Int) (a1 : Int) (a2 : Int) (r : Int) (w : World) (hr0 : Kd.C (Kd.int .u8) w A0 l0.length l0) (hc0 : l0.length ≤ c0) (h : winnowerref02_At_p.f k l0 a1 a2 = some r) :
    Calls Try.prog 19 #[.slice A0 l0.length c0, .int .i64 a1, .int .i64 a2] w fun e w' => e = .returned (.int .i64 r) ∧ Below w.heap.size w w' := by
  have HR0 := Aside0.mk hr0
  have HC0 := Aside0.mk hc0
  clear hr0 hc0
  have HB := Aside0.mk (Below.refl w.heap.size w)
  have H : (if a2 < 1 then (winnowerref02_At_p.j0 k l0 a1 a2 true) else (if a2 > 62 then (winnowerref02_At_p.j0 k l0 a1 a2 true) else (if a1 < 0 then (winnowerref02_At_p.j0 k l0 a1 a2 true) else (if a1 > 1099511627776 then (winnowerref02_At_p.j0 k l0 a1 a2 true) else (winnowerref02_At_p.j0 k l0 a1 a2 (decide ((wrap64 ((wrap64 (a1 + 1)) * a2)) > (wrap64 (8 * (l0.length : Int)))))))))) = some r := h
  clear h
  have HC4 := Aside0.mk H
  clear H
  go_enter Try.func19, Try.ntmps19
  go_upto_region 1 with (fail)
  go_cut [30] (fun v30 wc => ∃ (kq : Nat) (x30_3 : Bool), v30 = .bool x30_3 ∧ Aside0 (winnowerref02_At_p.j0 kq l0 a1 a2 x30_3 = some r) ∧ Aside0 (kq ≤ k) ∧ Aside0 (Below w.heap.size w wc))
  case first =>
    have H := HC4.out
    clear HC4
    by_cases c5 : a2 < 1
    · rw [if_pos c5] at H
      have c5b0 : decide (a2 < 1) = true := decide_eq_true c5
      clear c5
      (first | rw [c5b0] | (simp only [i64_w, i32_w]; rw [c5b0]) | skip)
      have H' := Aside0.mk H
      clear H
      go_wp2
      go_meet
      case rel => exact ⟨_, (true), (by first | rfl | (simp; done) | (simp [*]; done)), H', ⟨by first | omega | exact Nat.le_refl _⟩, ⟨by repeat (first | (with_reducible first | exact HB.out | apply below_alloc | apply pw_below_drewN | apply below_drew1) | exact HB.out)⟩⟩
    · rw [if_neg c5] at H
      have c5b0 : decide (a2 < 1) = false := decide_eq_false c5
      clear c5
      (first | rw [c5b0] | (simp only [i64_w, i32_w]; rw [c5b0]) | skip)
      by_cases c6 : a2 > 62
      · rw [if_pos c6] at H
        have c6b0 : decide (62 < a2) = true := decide_eq_true c6
        clear c6
        have H' := Aside0.mk H
        clear H
        go_wp2
        go_meet
        case rel => exact ⟨_, (true), (by first | rfl | (simp; done) | (simp [*]; done)), H', ⟨by first | omega | exact Nat.le_refl _⟩, ⟨by repeat (first | (with_reducible first | exact HB.out | apply below_alloc | apply pw_below_drewN | apply below_drew1) | exact HB.out)⟩⟩
      · rw [if_neg c6] at H
        have c6b0 : decide (62 < a2) = false := decide_eq_false c6
        clear c6
        by_cases c7 : a1 < 0
        · rw [if_pos c7] at H
          have c7b0 : decide (a1 < 0) = true := decide_eq_true c7
          clear c7
          have H' := Aside0.mk H
          clear H
          go_wp2
          go_meet
          case rel => exact ⟨_, (true), (by first | rfl | (simp; done) | (simp [*]; done)), H', ⟨by first | omega | exact Nat.le_refl _⟩, ⟨by repeat (first | (with_reducible first | exact HB.out | apply below_alloc | apply pw_below_drewN | apply below_drew1) | exact HB.out)⟩⟩
        · rw [if_neg c7] at H
          have c7b0 : decide (a1 < 0) = false := decide_eq_false c7
          clear c7
          by_cases c8 : a1 > 1099511627776
          · rw [if_pos c8] at H
            have c8b0 : decide (1099511627776 < a1) = true := decide_eq_true c8
            clear c8
            have H' := Aside0.mk H
            clear H
            go_wp2
            go_meet
            case rel => exact ⟨_, (true), (by first | rfl | (simp; done) | (simp [*]; done)), H', ⟨by first | omega | exact Nat.le_refl _⟩, ⟨by repeat (first | (with_reducible first | exact HB.out | apply below_alloc | apply pw_below_drewN | apply below_drew1) | exact HB.out)⟩⟩
          · rw [if_neg c8] at H
            have c8b0 : decide (1099511627776 < a1) = false := decide_eq_false c8
            clear c8
            have H' := Aside0.mk H
            clear H
            go_wp2
            go_meet
            case rel => exact ⟨_, (decide ((wrap64 ((wrap64 (a1 + 1)) * a2)) > (wrap64 (8 * (l0.length : Int))))), (by first | rfl | (simp; done) | (simp [*]; done)), H', ⟨by first | omega | exact Nat.le_refl _⟩, ⟨by repeat (first | (with_reducible first | exact HB.out | apply below_alloc | apply pw_below_drewN | apply below_drew1) | exact HB.out)⟩⟩
  case rest =>
    clear HC4
    try clear c1
    try clear p2
    try clear c5
    try clear c5b0
    try clear c6
    try clear c6b0
    try clear p6
    try clear c7
    try clear c7b0
    try clear c8
    try clear c8b0
    obtain ⟨kq, x30_3, rfl, HA, HJ3, HB⟩ := hcut
    cases kq with
    | zero => exact absurd HA.out (by simp [winnowerref02_At_p.j0])
    | succ kj3 =>
      have H := HA.out
      clear HA
      simp only [winnowerref02_At_p.j0] at H
      by_cases c9 : x30_3 = true
      · subst c9
        have H1 : (some 0) = some r := by rw [if_pos rfl] at H; exact H
        clear H
        have H := H1
        clear H1
        obtain rfl := Option.some.inj H
        go_wp2
        go_ret
        exact ⟨by first | rfl | (simp [errW_none, errW_some] <;> rfl) | (simp [*, errW_none, errW_some] <;> rfl), by repeat (first | (with_reducible first | exact HB.out | apply below_alloc | apply pw_below_drewN | apply below_drew1) | exact HB.out)⟩
      · replace c9 := Bool.eq_false_iff.mpr c9
        subst c9
        have H1 : ((winnowerref02_spread.f l0).bind fun t161 => (if 0 ≤ (wrap64 (a1 * a2)) then (if (wrap64 (a1 * a2)) ≤ (wrap64 ((wrap64 (a1 + 1)) * a2)) then (if (wrap64 ((wrap64 (a1 + 1)) * a2)) ≤ (t161.length : Int) then ((winnowerref02_value.f ((t161.take ((wrap64 ((wrap64 (a1 + 1)) * a2)) : Int).toNat).drop ((wrap64 (a1 * a2)) : Int).toNat)).bind fun t168 => (some t168)) else (none)) else (none)) else (none))) = some r := by rw [if_neg (show ¬ (false = true) by decide)] at H; exact H
        clear H
        have H := H1
        clear H1
        replace H := Option.bind_eq_some_iff.mp H
        obtain ⟨t161, A100, H⟩ := H
        replace H : (if 0 ≤ (wrap64 (a1 * a2)) then (if (wrap64 (a1 * a2)) ≤ (wrap64 ((wrap64 (a1 + 1)) * a2)) then (if (wrap64 ((wrap64 (a1 + 1)) * a2)) ≤ (t161.length : Int) then ((winnowerref02_value.f ((t161.take ((wrap64 ((wrap64 (a1 + 1)) * a2)) : Int).toNat).drop ((wrap64 (a1 * a2)) : Int).toNat)).bind fun t168 => (some t168)) else (none)) else (none)) else (none)) = some r := H
        have A10 := Aside0.mk A100
        clear A100
        obtain ⟨ji11, hji11⟩ : ∃ j_ : Int, (wrap64 (a1 * a2)) = j_ := ⟨_, rfl⟩
        replace H : (if 0 ≤ (ji11) then (if (ji11) ≤ (wrap64 ((wrap64 (a1 + 1)) * a2)) then (if (wrap64 ((wrap64 (a1 + 1)) * a2)) ≤ (t161.length : Int) then ((winnowerref02_value.f ((t161.take ((wrap64 ((wrap64 (a1 + 1)) * a2)) : Int).toNat).drop ((ji11) : Int).toNat)).bind fun t168 => (some t168)) else (none)) else (none)) else (none)) = some r := by first | (rw [hji11] at H; exact H) | (simp only [hji11] at H ⊢; exact H)
        (try rw [hji11] at A10)
        have hji11w : (IntKind.i64.wrap (a1 * a2)) = ji11 := (i64_w _).trans hji11
        by_cases c12 : 0 ≤ (ji11)
        · rw [if_pos c12] at H
          have c12b0 := eq_true c12
          have c12b1 : decide (0 ≤ (ji11)) = true := decide_eq_true c12
          clear c12
          by_cases c13 : (ji11) ≤ (wrap64 ((wrap64 (a1 + 1)) * a2))
          · rw [if_pos c13] at H
            have c13b0 := eq_true c13
            have c13b1 : decide ((ji11) ≤ (wrap64 ((wrap64 (a1 + 1)) * a2))) = true := decide_eq_true c13
            by_cases c14 : (wrap64 ((wrap64 (a1 + 1)) * a2)) ≤ (t161.length : Int)
            · rw [if_pos c14] at H
              have c14b0 := eq_true c14
              have c14b1 : decide ((wrap64 ((wrap64 (a1 + 1)) * a2)) ≤ (t161.length : Int)) = true := decide_eq_true c14
              obtain ⟨y164, hy164⟩ : ∃ y_ : List Int, y_ = ((t161.take ((wrap64 ((wrap64 (a1 + 1)) * a2)) : Int).toNat).drop ((ji11) : Int).toNat) := ⟨_, rfl⟩
              replace H : ((winnowerref02_value.f y164).bind fun t168 => (some t168)) = some r := by first | (rw [hy164]; with_reducible exact H) | (have H2_ := (Option.bind_some _ _).symm.trans H; rw [hy164]; with_reducible exact H2_) | (have H2_ := (Option.bind_some _ _).symm.trans H; with_reducible exact H2_) | with_reducible exact H | (rw [hy164]; exact H) | exact H
              have Ny164 := Aside0.mk hy164
              clear hy164
              replace H := Option.bind_eq_some_iff.mp H
              obtain ⟨t168, A150, H⟩ := H
              replace H : (some t168) = some r := H
              have A15 := Aside0.mk A150
              clear A150
              obtain rfl := Option.some.inj H
              go_wp2_with (first | ((with_reducible refine gate_callee (f := 28) rfl ?_); refine goesL_ (some 32) rfl rfl Try.func28 (by kernel_rfl) rfl #[.slice A0 l0.length c0] rfl (by (try simp only [List.map_toArray, List.map_cons, List.map_nil]); first | done | rfl | (simp only [List.length_drop, List.length_take]; rfl)) ?_; (with_reducible refine (winnowerref02_spread.calls _ _ l0 t161 _ ?side1 ?side2 A10.out).mono ?_); (case side1 => repeat (first | exact (Kd.C_below HR0.out HB.out) | (with_reducible refine Kd.C_alloc ?_ _) | (with_reducible refine Kd.C_drewN ?_ _) | (with_reducible refine Kd.C_drew ?_))); (case side2 => exact HC0.out); rintro e w16 ⟨v162, rfl, ho0, hb⟩; refine ⟨_, rfl, ?_⟩; have n0_ := Aside0.mk (Kd.R_lower ho0 (below_size (by repeat (first | (with_reducible first | exact HB.out | apply below_alloc | apply pw_below_drewN | apply below_drew1) | exact HB.out)))); have n1_ := Aside0.mk (below_step (by repeat (first | (with_reducible first | exact HB.out | apply below_alloc | apply pw_below_drewN | apply below_drew1) | exact HB.out)) hb); clear HB; have HO163 := n0_; have HB := n1_; clear n0_ n1_; (try clear hb); (try clear hb2); (try clear hk); (try clear hi); (try clear ho0); obtain ⟨Ao18, co18, eo18⟩ := Kd.R_slice HO163.out; subst eo18; have q17 : ((wrap64 ((wrap64 (a1 + 1)) * a2)) : Int) ≤ ((t161.length : Int) : Int) := of_decide_eq_true (by first | (with_reducible assumption) | assumption); obtain ⟨i017, hi017, _, hsz17, _⟩ := info_parts info3; have hroom17 : t161.length ≤ co18 := (Kd.R_reads' HO163.out).2.1; have hC17 : Kd.C (Kd.int .i64) _ Ao18 t161.length t161 := (Kd.R_reads' HO163.out).2.2; have ql17 : ((ji11) : Int) ≤ ((wrap64 ((wrap64 (a1 + 1)) * a2)) : Int) := of_decide_eq_true (by first | (with_reducible assumption) | assumption); have q017 : (0 : Int) ≤ ((ji11) : Int) := of_decide_eq_true (by first | (with_reducible assumption) | assumption); have hcut17 := cut_mid (P := Try.prog) 22 3 .i64 .i64 Try.underlying22 hi017 1 hsz17 Ao18 t161.length co18 (ji11) (wrap64 ((wrap64 (a1 + 1)) * a2)) q017 ql17 q17 hroom17; have hr17 := Kd.C_mid (lo := ((ji11) : Int).toNat) (hi := ((wrap64 ((wrap64 (a1 + 1)) * a2)) : Int).toNat) (c := co18) hC17 (by omega) (by omega) hroom17; obtain ⟨A17, hA17⟩ : ∃ A1, A1 = (if co18 = ((ji11) : Int).toNat then Ao18 else (Ao18 : Option Addr).map (·.add (((ji11) : Int).toNat * 1))) := ⟨_, rfl⟩; obtain ⟨c17, hc17⟩ : ∃ c1, c1 = co18 - ((ji11) : Int).toNat := ⟨_, rfl⟩; have hy17 : y164.length = ((wrap64 ((wrap64 (a1 + 1)) * a2)) : Int).toNat - ((ji11) : Int).toNat := (by rw [Ny164.out, List.length_drop, List.length_take] <;> omega); rw [show ((t161).take ((wrap64 ((wrap64 (a1 + 1)) * a2)) : Int).toNat).drop ((ji11) : Int).toNat = y164 from Ny164.out.symm] at hr17; replace hr17 : Kd.C (Kd.int .i64) _ A17 y164.length y164 := (by rw [hA17]; exact hr17); rw [← hy17, ← hA17, ← hc17] at hcut17; have HR167 := Aside0.mk hr17; have HC167 := Aside0.mk (show y164.length ≤ c17 from by rw [hy17, hc17]; exact Nat.sub_le_sub_right (Nat.le_trans (by omega) hroom17) _); clear hr17 hC17 hroom17 hi017 hsz17 hc17; have KY17 := Aside0.mk hy17; have KA17 := Aside0.mk hA17; clear hy17 hA17; have KL17 := Aside0.mk (show ((wrap64 ((wrap64 (a1 + 1)) * a2)) : Int).toNat ≤ t161.length from by omega); have KM17 := Aside0.mk (show ((ji11) : Int).toNat ≤ ((wrap64 ((wrap64 (a1 + 1)) * a2)) : Int).toNat from by omega); replace q17 := eq_true q17) | ((with_reducible refine gate_callee (f := 25) rfl ?_); refine goesL_ (some 41) rfl rfl Try.func25 (by kernel_rfl) rfl #[.slice A17 y164.length c17] rfl (by (try simp only [List.map_toArray, List.map_cons, List.map_nil]); first | done | rfl | (simp only [List.length_drop, List.length_take]; rfl)) ?_; (with_reducible refine (winnowerref02_value.calls _ _ y164 t168 _ ?side1 ?side2 A15.out).mono ?_); (case side1 => repeat (first | exact (by repeat (first | (with_reducible exact HR167.out) | (with_reducible refine Kd.C_alloc ?_ _) | (with_reducible refine Kd.C_drewN ?_ _) | (with_reducible refine Kd.C_drew ?_) | exact HR167.out)) | (with_reducible refine Kd.C_alloc ?_ _) | (with_reducible refine Kd.C_drewN ?_ _) | (with_reducible refine Kd.C_drew ?_))); (case side2 => exact HC167.out); rintro e w' ⟨rfl, ⟨nd, rfl⟩⟩; refine ⟨_, rfl, ?_⟩))
              go_ret
              exact ⟨by first | rfl | (simp [errW_none, errW_some] <;> rfl) | (simp only [← hji11]; first | rfl | (simp [errW_none, errW_some] <;> rfl)) | (simp [*, errW_none, errW_some] <;> rfl), by repeat (first | (with_reducible first | exact HB.out | apply below_alloc | apply pw_below_drewN | apply below_drew1) | exact HB.out)⟩
            · rw [if_neg c14] at H
              exact absurd H (by simp)
          · rw [if_neg c13] at H
            exact absurd H (by simp)
        · rw [if_neg c12] at H
          exact absurd H (by simp)

-- BY HAND: Derived.Test.YthcbcddnillipaaHbitnum
/-! ### winnowerref02_At: function 19 -/
-- HAND winnower/winnowerref02.At over
-- IMPORT Derived.Test.YthcbcddnillipaaHbitnum
open Go.Proofs.Ythcbcddnillipaa.Hnum Go.Proofs.Ythcbcddnillipaa.Hbits Go.Proofs.Ythcbcddnillipaa.Hbitnum
def winnowerref02_At.f (l0 : List Int) (a1 a2 : Int) : Option Int := if Bytes l0 ∧ l0.length ≤ 1000000 ∧ i64 a1 ∧ i64 a2 then some (atT l0 a1 a2) else none
theorem winnowerref02_At.fits {l0 : List Int} {a1 a2 r : Int} (_ : l0.length ≤ 9223372036854775807) (h : winnowerref02_At.f l0 a1 a2 = some r) : ∃ k, winnowerref02_At_p.f k l0 a1 a2 = some r := by
  unfold winnowerref02_At.f at h
  by_cases hi : Bytes l0 ∧ l0.length ≤ 1000000 ∧ i64 a1 ∧ i64 a2
  · rw [if_pos hi] at h
    rw [← h]
    refine ⟨1, ?_⟩
    obtain ⟨hb, hl, h1, h2⟩ := hi
    unfold i64 at h1 h2
    unfold atT winnowerref02_At_p.f
    by_cases c0 : a2 < 1
    · rw [if_pos c0, winnowerref02_At_p.j0, if_pos rfl]
      by_cases c1 : a2 < 0
      · rw [if_pos (.inl c1)]
      · obtain rfl : a2 = 0 := by omega
        by_cases c2 : (0 : Int) < 0 ∨ 62 < (0 : Int) ∨ a1 < 0 ∨ 1099511627776 < a1 ∨ 8 * (l0.length : Int) < (a1 + 1) * 0
        · rw [if_pos c2]
        · rw [if_neg c2]; simp [Nat.mod_one]
    · rw [if_neg c0]
      by_cases c1 : a2 > 62
      · rw [if_pos c1, winnowerref02_At_p.j0, if_pos rfl, if_pos (.inr (.inl c1))]
      · rw [if_neg c1]
        by_cases c2 : a1 < 0
        · rw [if_pos c2, winnowerref02_At_p.j0, if_pos rfl, if_pos (.inr (.inr (.inl c2)))]
        · rw [if_neg c2]
          by_cases c3 : a1 > 1099511627776
          · rw [if_pos c3, winnowerref02_At_p.j0, if_pos rfl, if_pos (.inr (.inr (.inr (.inl c3))))]
          · rw [if_neg c3]
            obtain ⟨i, rfl⟩ := Int.eq_ofNat_of_zero_le (show 0 ≤ a1 by omega)
            obtain ⟨w, rfl⟩ := Int.eq_ofNat_of_zero_le (show 0 ≤ a2 by omega)
            have hm : (i + 1) * w ≤ 1099511627777 * 62 := Nat.mul_le_mul (by omega) (by omega)
            have hs : (i + 1) * w = i * w + w := by rw [Nat.add_mul, Nat.one_mul]
            have e1 : (i : Int) * (w : Int) = ((i * w : Nat) : Int) := by simp
            have e2 : ((i : Int) + 1) * (w : Int) = ((i * w + w : Nat) : Int) := by rw [← hs]; simp
            rw [wrap_id (x := (i : Int) + 1) (by omega) (by omega), e2]
            generalize hq : i * w = q at hs
            have e3 : wrap64 ((q + w : Nat) : Int) = ((q + w : Nat) : Int) := wrap_id (by omega) (by omega)
            have e4 : wrap64 (8 * (l0.length : Int)) = 8 * (l0.length : Int) := wrap_id (by omega) (by omega)
            have e5 : wrap64 ((q : Nat) : Int) = ((q : Nat) : Int) := wrap_id (by omega) (by omega)
            rw [e3, e4, winnowerref02_At_p.j0]
            by_cases c4 : ((q + w : Nat) : Int) > 8 * (l0.length : Int)
            · rw [if_pos (decide_eq_true c4), if_pos (.inr (.inr (.inr (.inr (by omega)))))]
            · have hspread : winnowerref02_spread.f l0 = some (spreadB l0) := by unfold winnowerref02_spread.f; rw [if_pos ⟨hb, hl⟩]
              have hlen := spreadB_length l0
              have hv : winnowerref02_value.f (((spreadB l0).take (q + w)).drop q) = some ((valB (((spreadB l0).take (q + w)).drop q) : Nat) : Int) := by
                unfold winnowerref02_value.f
                rw [if_pos ⟨((spreadB_bits l0).take _).drop _, by rw [List.length_drop, List.length_take]; omega⟩]
              rw [decide_eq_false c4, if_neg (by decide), hspread, Option.bind_some, wrap_id (x := (i : Int) + 1) (by omega) (by omega), e1, e2, hq, e3, e5, if_pos (by omega), if_pos (by omega), if_pos (by omega), Int.toNat_natCast, Int.toNat_natCast, hv, Option.bind_some,
                valB_cut (spreadB_bits l0) (by omega), spreadB_val hb, if_neg (by omega), Int.toNat_natCast, Int.toNat_natCast, hq]
  · rw [if_neg hi] at h; cases h
theorem winnowerref02_At.calls (A0 : Option Addr) (c0 : Nat) (l0 : List Int) (a1 : Int) (a2 : Int) (r : Int) (w : World) (hr0 : Kd.C (Kd.int .u8) w A0 l0.length l0) (hc0 : l0.length ≤ c0) (h : winnowerref02_At.f l0 a1 a2 = some r) :
    Calls Try.prog 19 #[.slice A0 l0.length c0, .int .i64 a1, .int .i64 a2] w fun e w' => e = .returned (.int .i64 r) ∧ Below w.heap.size w w' := by
  obtain ⟨k, hk⟩ := winnowerref02_At.fits hr0.2.1 h
  exact winnowerref02_At_p.calls k A0 c0 l0 a1 a2 r w hr0 hc0 hk


/-! ### winnowerlaw02_BitsUnpacks: function 4 -/
def winnowerlaw02_BitsUnpacks.j0 : Nat → List Int → Int → Int → Int → Bool → Bool → Option (Bool)
  | 0, _, _, _, _, _, _ => none
  | k + 1, x0, x1, x2, x3, x9, x22 => if x22 = true then (some x9) else ((bits_Unpack.f x0 x1 x2).bind fun bt170 => ((winnowerref02_Unpack.f x0 x1 x2).bind fun bt174 => ((winnowerref01_Ints.f bt170.1 bt174.1).bind fun t178 => (if t178 = true then (if bt170.2 = bt174.2 then ((bits_At.f x0 x3 x2).bind fun t179 => ((winnowerref02_At.f x0 x3 x2).bind fun t180 => (some (t179 == t180)))) else (some false)) else (some false)))))
def winnowerlaw02_BitsUnpacks.f (k : Nat) (l0 : List Int) (a1 : Int) (a2 : Int) (a3 : Int) : Option (Bool) := (winnowerlaw02_awake.f).bind fun t169 => (if t169 = true then (winnowerlaw02_BitsUnpacks.j0 k l0 a1 a2 a3 t169 (decide ((l0.length : Int) > 600))) else (winnowerlaw02_BitsUnpacks.j0 k l0 a1 a2 a3 t169 true))
theorem winnowerlaw02_BitsUnpacks.mono_l : ∀ k, (∀ y0 y1 y2 y3 y4 y5, LeO (winnowerlaw02_BitsUnpacks.j0 k y0 y1 y2 y3 y4 y5) (winnowerlaw02_BitsUnpacks.j0 (k + 1) y0 y1 y2 y3 y4 y5))
  | 0 => fun _ _ _ _ _ _ r h => by simp [winnowerlaw02_BitsUnpacks.j0] at h
  | k + 1 => by
    have ih0 := winnowerlaw02_BitsUnpacks.mono_l k
    · intro y0 y1 y2 y3 y4 y5
      unfold winnowerlaw02_BitsUnpacks.j0
      repeat' first
      | (with_reducible exact ih0 _ _ _ _ _ _)
      | (with_reducible exact LeO.refl _)
      | (with_reducible exact LeO.none _)
      | (with_reducible refine LeO.ite ?_ ?_)
      | (with_reducible refine LeO.bind ?_ (fun _ => ?_))
      | exact ih0 _ _ _ _ _ _
      | exact LeO.none _
      | refine LeO.ite ?_ ?_
      | refine LeO.bind ?_ (fun _ => ?_)
theorem winnowerlaw02_BitsUnpacks.mono : ∀ a0 a1 a2 a3 k, LeO (winnowerlaw02_BitsUnpacks.f k a0 a1 a2 a3) (winnowerlaw02_BitsUnpacks.f (k + 1) a0 a1 a2 a3) := by
  intro a0 a1 a2 a3 k
  have ih0 := winnowerlaw02_BitsUnpacks.mono_l k
  unfold winnowerlaw02_BitsUnpacks.f
  repeat' first
      | (with_reducible exact ih0 _ _ _ _ _ _)
      | (with_reducible exact LeO.refl _)
      | (with_reducible exact LeO.none _)
      | (with_reducible refine LeO.ite ?_ ?_)
      | (with_reducible refine LeO.bind ?_ (fun _ => ?_))
      | exact ih0 _ _ _ _ _ _
      | exact LeO.none _
      | refine LeO.ite ?_ ?_
      | refine LeO.bind ?_ (fun _ => ?_)
set_option maxHeartbeats 8000000 in
set_option maxRecDepth 100000 in
theorem winnowerlaw02_BitsUnpacks.calls (k : Nat) (A0 : Option Addr) (c0 : Nat) (l0 : List Int) (a1 : Int) (a2 : Int) (a3 : Int) (r : Bool) (w : World) (hr0 : Kd.C (Kd.int .u8) w A0 l0.length l0) (hc0 : l0.length ≤ c0) (h : winnowerlaw02_BitsUnpacks.f k l0 a1 a2 a3 = some r) :
    Calls Try.prog 4 #[.slice A0 l0.length c0, .int .i64 a1, .int .i64 a2, .int .i64 a3] w fun e w' => e = .returned (.bool r) ∧ Below w.heap.size w w' := by
  have HR0 := Aside0.mk hr0
  have HC0 := Aside0.mk hc0
  clear hr0 hc0
  have HB := Aside0.mk (Below.refl w.heap.size w)
  have H : ((winnowerlaw02_awake.f).bind fun t169 => (if t169 = true then (winnowerlaw02_BitsUnpacks.j0 k l0 a1 a2 a3 t169 (decide ((l0.length : Int) > 600))) else (winnowerlaw02_BitsUnpacks.j0 k l0 a1 a2 a3 t169 true))) = some r := h
  clear h
  replace H := Option.bind_eq_some_iff.mp H
  obtain ⟨t169, A50, H⟩ := H
  replace H : (if t169 = true then (winnowerlaw02_BitsUnpacks.j0 k l0 a1 a2 a3 t169 (decide ((l0.length : Int) > 600))) else (winnowerlaw02_BitsUnpacks.j0 k l0 a1 a2 a3 t169 true)) = some r := H
  have A5 := Aside0.mk A50
  clear A50
  have HC6 := Aside0.mk H
  clear H
  go_enter Try.func4, Try.ntmps4
  go_upto_region 2 with (first | ((with_reducible refine gate_callee (f := 9) rfl ?_); refine goesL_ (some 15) rfl rfl Try.func9 (by kernel_rfl) rfl #[] rfl (by (try simp only [List.map_toArray, List.map_cons, List.map_nil]); first | done | rfl | (simp only [List.length_drop, List.length_take]; rfl)) ?_; (with_reducible refine (winnowerlaw02_awake.calls  t169 _ A5.out).mono ?_); rintro e w7 ⟨rfl, hb⟩; refine ⟨_, rfl, ?_⟩; have n0_ := Aside0.mk (below_step (by repeat (first | (with_reducible first | exact HB.out | apply below_alloc | apply pw_below_drewN | apply below_drew1) | exact HB.out)) hb); clear HB; have HB := n0_; clear n0_; (try clear hb); (try clear hb2); (try clear hk); (try clear hi)))
  (try simp only [Act.put, List.setIfInBounds_toArray, List.set_cons_zero, List.set_cons_succ])
  go_cut [22] (fun v22 wc => ∃ (kq : Nat) (x22_5 : Bool), v22 = .bool x22_5 ∧ Aside0 (winnowerlaw02_BitsUnpacks.j0 kq l0 a1 a2 a3 t169 x22_5 = some r) ∧ Aside0 (kq ≤ k) ∧ Aside0 (Below w.heap.size w wc))
  case first =>
    have H := HC6.out
    clear HC6
    by_cases c8 : t169 = true
    · subst c8
      have H1 : (winnowerlaw02_BitsUnpacks.j0 k l0 a1 a2 a3 true (decide ((l0.length : Int) > 600))) = some r := by rw [if_pos rfl] at H; exact H
      clear H
      have H := H1
      clear H1
      have H' := Aside0.mk H
      clear H
      go_wp2
      go_meet
      case rel => exact ⟨_, (decide ((l0.length : Int) > 600)), (by first | rfl | (simp; done) | (simp [*]; done)), H', ⟨by first | omega | exact Nat.le_refl _⟩, ⟨by repeat (first | (with_reducible first | exact HB.out | apply below_alloc | apply pw_below_drewN | apply below_drew1) | exact HB.out)⟩⟩
    · replace c8 := Bool.eq_false_iff.mpr c8
      subst c8
      have H1 : (winnowerlaw02_BitsUnpacks.j0 k l0 a1 a2 a3 false true) = some r := by rw [if_neg (show ¬ (false = true) by decide)] at H; exact H
      clear H
      have H := H1
      clear H1
      have H' := Aside0.mk H
      clear H
      go_wp2
      go_meet
      case rel => exact ⟨_, (true), (by first | rfl | (simp; done) | (simp [*]; done)), H', ⟨by first | omega | exact Nat.le_refl _⟩, ⟨by repeat (first | (with_reducible first | exact HB.out | apply below_alloc | apply pw_below_drewN | apply below_drew1) | exact HB.out)⟩⟩
  case rest =>
    clear HC6
    try clear p2
    try clear c4
    try clear c8
    obtain ⟨kq, x22_5, rfl, HA, HJ5, HB⟩ := hcut
    cases kq with
    | zero => exact absurd HA.out (by simp [winnowerlaw02_BitsUnpacks.j0])
    | succ kj5 =>
      have H := HA.out
      clear HA
      simp only [winnowerlaw02_BitsUnpacks.j0] at H
      by_cases c9 : x22_5 = true
      · subst c9
        have H1 : (some t169) = some r := by rw [if_pos rfl] at H; exact H
        clear H
        have H := H1
        clear H1
        obtain rfl := Option.some.inj H
        go_wp2
        go_ret
        exact ⟨by first | rfl | (simp [errW_none, errW_some] <;> rfl) | (simp [*, errW_none, errW_some] <;> rfl), by repeat (first | (with_reducible first | exact HB.out | apply below_alloc | apply pw_below_drewN | apply below_drew1) | exact HB.out)⟩
      · replace c9 := Bool.eq_false_iff.mpr c9
        subst c9
        have H1 : ((bits_Unpack.f l0 a1 a2).bind fun bt170 => ((winnowerref02_Unpack.f l0 a1 a2).bind fun bt174 => ((winnowerref01_Ints.f bt170.1 bt174.1).bind fun t178 => (if t178 = true then (if bt170.2 = bt174.2 then ((bits_At.f l0 a3 a2).bind fun t179 => ((winnowerref02_At.f l0 a3 a2).bind fun t180 => (some (t179 == t180)))) else (some false)) else (some false))))) = some r := by rw [if_neg (show ¬ (false = true) by decide)] at H; exact H
        clear H
        have H := H1
        clear H1
        replace H := Option.bind_eq_some_iff.mp H
        obtain ⟨⟨t170, t171⟩, A100, H⟩ := H
        replace H : ((winnowerref02_Unpack.f l0 a1 a2).bind fun bt174 => ((winnowerref01_Ints.f t170 bt174.1).bind fun t178 => (if t178 = true then (if t171 = bt174.2 then ((bits_At.f l0 a3 a2).bind fun t179 => ((winnowerref02_At.f l0 a3 a2).bind fun t180 => (some (t179 == t180)))) else (some false)) else (some false)))) = some r := H
        have A10 := Aside0.mk A100
        clear A100
        replace H := Option.bind_eq_some_iff.mp H
        obtain ⟨⟨t174, t175⟩, A110, H⟩ := H
        replace H : ((winnowerref01_Ints.f t170 t174).bind fun t178 => (if t178 = true then (if t171 = t175 then ((bits_At.f l0 a3 a2).bind fun t179 => ((winnowerref02_At.f l0 a3 a2).bind fun t180 => (some (t179 == t180)))) else (some false)) else (some false))) = some r := H
        have A11 := Aside0.mk A110
        clear A110
        replace H := Option.bind_eq_some_iff.mp H
        obtain ⟨t178, A120, H⟩ := H
        replace H : (if t178 = true then (if t171 = t175 then ((bits_At.f l0 a3 a2).bind fun t179 => ((winnowerref02_At.f l0 a3 a2).bind fun t180 => (some (t179 == t180)))) else (some false)) else (some false)) = some r := H
        have A12 := Aside0.mk A120
        clear A120
        by_cases c13 : t178 = true
        · subst c13
          have H1 : (if t171 = t175 then ((bits_At.f l0 a3 a2).bind fun t179 => ((winnowerref02_At.f l0 a3 a2).bind fun t180 => (some (t179 == t180)))) else (some false)) = some r := by rw [if_pos rfl] at H; exact H
          clear H
          have H := H1
          clear H1
          by_cases c14 : t171 = t175
          · rw [if_pos c14] at H
            have c14b0 : (t171 == t175) = true := beq_iff_eq.mpr c14
            have c14b1 : (t171 != t175) = false := bne_eq_false_iff_eq.mpr c14
            clear c14
            replace H := Option.bind_eq_some_iff.mp H
            obtain ⟨t179, A150, H⟩ := H
            replace H : ((winnowerref02_At.f l0 a3 a2).bind fun t180 => (some (t179 == t180))) = some r := H
            have A15 := Aside0.mk A150
            clear A150
            replace H := Option.bind_eq_some_iff.mp H
            obtain ⟨t180, A160, H⟩ := H
            replace H : (some (t179 == t180)) = some r := H
            have A16 := Aside0.mk A160
            clear A160
            obtain rfl := Option.some.inj H
            go_wp2_with (first | ((with_reducible refine gate_callee (f := 15) rfl ?_); refine goesL_ (some 28) rfl rfl Try.func15 (by kernel_rfl) rfl #[.slice A0 l0.length c0, .int .i64 a1, .int .i64 a2] rfl (by (try simp only [List.map_toArray, List.map_cons, List.map_nil]); first | done | rfl | (simp only [List.length_drop, List.length_take]; rfl)) ?_; (with_reducible refine (bits_Unpack.calls _ _ l0 a1 a2 t170 t171 _ ?side1 ?side2 A10.out).mono ?_); (case side1 => repeat (first | exact (Kd.C_below HR0.out HB.out) | (with_reducible refine Kd.C_alloc ?_ _) | (with_reducible refine Kd.C_drewN ?_ _) | (with_reducible refine Kd.C_drew ?_))); (case side2 => exact HC0.out); rintro e w17 ⟨v172, rfl, ho0, hb⟩; refine ⟨_, rfl, ?_⟩; have n0_ := Aside0.mk (Kd.R_lower ho0 (below_size (by repeat (first | (with_reducible first | exact HB.out | apply below_alloc | apply pw_below_drewN | apply below_drew1) | exact HB.out)))); have n1_ := Aside0.mk (below_step (by repeat (first | (with_reducible first | exact HB.out | apply below_alloc | apply pw_below_drewN | apply below_drew1) | exact HB.out)) hb); clear HB; have HO173 := n0_; have HB := n1_; clear n0_ n1_; (try clear hb); (try clear hb2); (try clear hk); (try clear hi); (try clear ho0)) | ((with_reducible refine gate_callee (f := 16) rfl ?_); refine goesL_ (some 35) rfl rfl Try.func16 (by kernel_rfl) rfl #[.slice A0 l0.length c0, .int .i64 a1, .int .i64 a2] rfl (by (try simp only [List.map_toArray, List.map_cons, List.map_nil]); first | done | rfl | (simp only [List.length_drop, List.length_take]; rfl)) ?_; (with_reducible refine (winnowerref02_Unpack.calls _ _ l0 a1 a2 t174 t175 _ ?side1 ?side2 A11.out).mono ?_); (case side1 => repeat (first | exact (Kd.C_below HR0.out HB.out) | (with_reducible refine Kd.C_alloc ?_ _) | (with_reducible refine Kd.C_drewN ?_ _) | (with_reducible refine Kd.C_drew ?_))); (case side2 => exact HC0.out); rintro e w18 ⟨v176, rfl, ho0, hb⟩; refine ⟨_, rfl, ?_⟩; have n0_ := Aside0.mk (Kd.R_elder' (by (with_reducible repeat (first | apply Kd.R_alloc | apply Kd.R_drewN | apply Kd.R_drew)); exact HO173.out) (Kd.R_base ho0) hb); have n1_ := Aside0.mk (Kd.R_lower (Kd.R_new' ho0 (Kd.R_lt (by (with_reducible repeat (first | apply Kd.R_alloc | apply Kd.R_drewN | apply Kd.R_drew)); exact HO173.out))) (below_size (by repeat (first | (with_reducible first | exact HB.out | apply below_alloc | apply pw_below_drewN | apply below_drew1) | exact HB.out)))); have n2_ := Aside0.mk (below_step (by repeat (first | (with_reducible first | exact HB.out | apply below_alloc | apply pw_below_drewN | apply below_drew1) | exact HB.out)) hb); clear HO173; clear HB; have HO173 := n0_; have HO177 := n1_; have HB := n2_; clear n0_ n1_ n2_; (try clear hb); (try clear hb2); (try clear hk); (try clear hi); (try clear ho0); obtain ⟨Ao19, co19, eo19⟩ := Kd.R_slice HO173.out; subst eo19; obtain ⟨Ao20, co20, eo20⟩ := Kd.R_slice HO177.out; subst eo20) | ((with_reducible refine gate_callee (f := 17) rfl ?_); refine goesL_ (some 40) rfl rfl Try.func17 (by kernel_rfl) rfl #[.slice Ao19 t170.length co19, .slice Ao20 t174.length co20] rfl (by (try simp only [List.map_toArray, List.map_cons, List.map_nil]); first | done | rfl | (simp only [List.length_drop, List.length_take]; rfl)) ?_; (with_reducible refine (winnowerref01_Ints.calls _ _ t170 _ _ t174 true _ ?side1 ?side2 ?side3 ?side4 A12.out).mono ?_); (case side1 => repeat (first | exact (Kd.R_reads' HO173.out).2.2 | (with_reducible refine Kd.C_alloc ?_ _) | (with_reducible refine Kd.C_drewN ?_ _) | (with_reducible refine Kd.C_drew ?_))); (case side2 => exact (Kd.R_reads' HO173.out).2.1); (case side3 => repeat (first | exact (Kd.R_reads' HO177.out).2.2 | (with_reducible refine Kd.C_alloc ?_ _) | (with_reducible refine Kd.C_drewN ?_ _) | (with_reducible refine Kd.C_drew ?_))); (case side4 => exact (Kd.R_reads' HO177.out).2.1); rintro e w' ⟨rfl, ⟨nd, rfl⟩⟩; refine ⟨_, rfl, ?_⟩) | (go_at_call 18; (with_reducible refine (bits_At.calls _ _ l0 a3 a2 t179 _ ?side1 ?side2 A15.out).mono ?_); (case side1 => repeat (first | exact (Kd.C_below HR0.out (by repeat (first | (with_reducible first | exact HB.out | apply below_alloc | apply pw_below_drewN | apply below_drew1) | exact HB.out))) | (with_reducible refine Kd.C_alloc ?_ _) | (with_reducible refine Kd.C_drewN ?_ _) | (with_reducible refine Kd.C_drew ?_))); (case side2 => exact HC0.out); rintro e w21 ⟨rfl, hb⟩; have n0_ := Aside0.mk (Kd.R_below (by (with_reducible repeat (first | apply Kd.R_alloc | apply Kd.R_drewN | apply Kd.R_drew)); exact HO173.out) hb); have n1_ := Aside0.mk (Kd.R_below (by (with_reducible repeat (first | apply Kd.R_alloc | apply Kd.R_drewN | apply Kd.R_drew)); exact HO177.out) hb); have n2_ := Aside0.mk (below_step (by repeat (first | (with_reducible first | exact HB.out | apply below_alloc | apply pw_below_drewN | apply below_drew1) | exact HB.out)) hb); clear HO173; clear HO177; clear HB; have HO173 := n0_; have HO177 := n1_; have HB := n2_; clear n0_ n1_ n2_; (try clear hb); (try clear hb2); (try clear hk); (try clear hi)) | (go_at_call 19; (with_reducible refine (winnowerref02_At.calls _ _ l0 a3 a2 t180 _ ?side1 ?side2 A16.out).mono ?_); (case side1 => repeat (first | exact (Kd.C_below HR0.out HB.out) | (with_reducible refine Kd.C_alloc ?_ _) | (with_reducible refine Kd.C_drewN ?_ _) | (with_reducible refine Kd.C_drew ?_))); (case side2 => exact HC0.out); rintro e w22 ⟨rfl, hb⟩; have n0_ := Aside0.mk (Kd.R_below (by (with_reducible repeat (first | apply Kd.R_alloc | apply Kd.R_drewN | apply Kd.R_drew)); exact HO173.out) hb); have n1_ := Aside0.mk (Kd.R_below (by (with_reducible repeat (first | apply Kd.R_alloc | apply Kd.R_drewN | apply Kd.R_drew)); exact HO177.out) hb); have n2_ := Aside0.mk (below_step (by repeat (first | (with_reducible first | exact HB.out | apply below_alloc | apply pw_below_drewN | apply below_drew1) | exact HB.out)) hb); clear HO173; clear HO177; clear HB; have HO173 := n0_; have HO177 := n1_; have HB := n2_; clear n0_ n1_ n2_; (try clear hb); (try clear hb2); (try clear hk); (try clear hi)))
            go_ret
            exact ⟨by first | rfl | (simp [errW_none, errW_some] <;> rfl) | (simp [*, errW_none, errW_some] <;> rfl), by repeat (first | (with_reducible first | exact HB.out | apply below_alloc | apply pw_below_drewN | apply below_drew1) | exact HB.out)⟩
          · rw [if_neg c14] at H
            have c14b0 : (t171 == t175) = false := beq_eq_false_iff_ne.mpr c14
            have c14b1 : (t171 != t175) = true := bne_iff_ne.mpr c14
            obtain rfl := Option.some.inj H
            go_wp2_with (first | ((with_reducible refine gate_callee (f := 15) rfl ?_); refine goesL_ (some 28) rfl rfl Try.func15 (by kernel_rfl) rfl #[.slice A0 l0.length c0, .int .i64 a1, .int .i64 a2] rfl (by (try simp only [List.map_toArray, List.map_cons, List.map_nil]); first | done | rfl | (simp only [List.length_drop, List.length_take]; rfl)) ?_; (with_reducible refine (bits_Unpack.calls _ _ l0 a1 a2 t170 t171 _ ?side1 ?side2 A10.out).mono ?_); (case side1 => repeat (first | exact (Kd.C_below HR0.out HB.out) | (with_reducible refine Kd.C_alloc ?_ _) | (with_reducible refine Kd.C_drewN ?_ _) | (with_reducible refine Kd.C_drew ?_))); (case side2 => exact HC0.out); rintro e w23 ⟨v172, rfl, ho0, hb⟩; refine ⟨_, rfl, ?_⟩; have n0_ := Aside0.mk (Kd.R_lower ho0 (below_size (by repeat (first | (with_reducible first | exact HB.out | apply below_alloc | apply pw_below_drewN | apply below_drew1) | exact HB.out)))); have n1_ := Aside0.mk (below_step (by repeat (first | (with_reducible first | exact HB.out | apply below_alloc | apply pw_below_drewN | apply below_drew1) | exact HB.out)) hb); clear HB; have HO173 := n0_; have HB := n1_; clear n0_ n1_; (try clear hb); (try clear hb2); (try clear hk); (try clear hi); (try clear ho0)) | ((with_reducible refine gate_callee (f := 16) rfl ?_); refine goesL_ (some 35) rfl rfl Try.func16 (by kernel_rfl) rfl #[.slice A0 l0.length c0, .int .i64 a1, .int .i64 a2] rfl (by (try simp only [List.map_toArray, List.map_cons, List.map_nil]); first | done | rfl | (simp only [List.length_drop, List.length_take]; rfl)) ?_; (with_reducible refine (winnowerref02_Unpack.calls _ _ l0 a1 a2 t174 t175 _ ?side1 ?side2 A11.out).mono ?_); (case side1 => repeat (first | exact (Kd.C_below HR0.out HB.out) | (with_reducible refine Kd.C_alloc ?_ _) | (with_reducible refine Kd.C_drewN ?_ _) | (with_reducible refine Kd.C_drew ?_))); (case side2 => exact HC0.out); rintro e w24 ⟨v176, rfl, ho0, hb⟩; refine ⟨_, rfl, ?_⟩; have n0_ := Aside0.mk (Kd.R_elder' (by (with_reducible repeat (first | apply Kd.R_alloc | apply Kd.R_drewN | apply Kd.R_drew)); exact HO173.out) (Kd.R_base ho0) hb); have n1_ := Aside0.mk (Kd.R_lower (Kd.R_new' ho0 (Kd.R_lt (by (with_reducible repeat (first | apply Kd.R_alloc | apply Kd.R_drewN | apply Kd.R_drew)); exact HO173.out))) (below_size (by repeat (first | (with_reducible first | exact HB.out | apply below_alloc | apply pw_below_drewN | apply below_drew1) | exact HB.out)))); have n2_ := Aside0.mk (below_step (by repeat (first | (with_reducible first | exact HB.out | apply below_alloc | apply pw_below_drewN | apply below_drew1) | exact HB.out)) hb); clear HO173; clear HB; have HO173 := n0_; have HO177 := n1_; have HB := n2_; clear n0_ n1_ n2_; (try clear hb); (try clear hb2); (try clear hk); (try clear hi); (try clear ho0); obtain ⟨Ao25, co25, eo25⟩ := Kd.R_slice HO173.out; subst eo25; obtain ⟨Ao26, co26, eo26⟩ := Kd.R_slice HO177.out; subst eo26) | ((with_reducible refine gate_callee (f := 17) rfl ?_); refine goesL_ (some 40) rfl rfl Try.func17 (by kernel_rfl) rfl #[.slice Ao25 t170.length co25, .slice Ao26 t174.length co26] rfl (by (try simp only [List.map_toArray, List.map_cons, List.map_nil]); first | done | rfl | (simp only [List.length_drop, List.length_take]; rfl)) ?_; (with_reducible refine (winnowerref01_Ints.calls _ _ t170 _ _ t174 true _ ?side1 ?side2 ?side3 ?side4 A12.out).mono ?_); (case side1 => repeat (first | exact (Kd.R_reads' HO173.out).2.2 | (with_reducible refine Kd.C_alloc ?_ _) | (with_reducible refine Kd.C_drewN ?_ _) | (with_reducible refine Kd.C_drew ?_))); (case side2 => exact (Kd.R_reads' HO173.out).2.1); (case side3 => repeat (first | exact (Kd.R_reads' HO177.out).2.2 | (with_reducible refine Kd.C_alloc ?_ _) | (with_reducible refine Kd.C_drewN ?_ _) | (with_reducible refine Kd.C_drew ?_))); (case side4 => exact (Kd.R_reads' HO177.out).2.1); rintro e w' ⟨rfl, ⟨nd, rfl⟩⟩; refine ⟨_, rfl, ?_⟩))
            go_ret
            exact ⟨by first | rfl | (simp [errW_none, errW_some] <;> rfl) | (simp [*, errW_none, errW_some] <;> rfl), by repeat (first | (with_reducible first | exact HB.out | apply below_alloc | apply pw_below_drewN | apply below_drew1) | exact HB.out)⟩
        · replace c13 := Bool.eq_false_iff.mpr c13
          subst c13
          have H1 : (some false) = some r := by rw [if_neg (show ¬ (false = true) by decide)] at H; exact H
          clear H
          have H := H1
          clear H1
          obtain rfl := Option.some.inj H
          go_wp2_with (first | ((with_reducible refine gate_callee (f := 15) rfl ?_); refine goesL_ (some 28) rfl rfl Try.func15 (by kernel_rfl) rfl #[.slice A0 l0.length c0, .int .i64 a1, .int .i64 a2] rfl (by (try simp only [List.map_toArray, List.map_cons, List.map_nil]); first | done | rfl | (simp only [List.length_drop, List.length_take]; rfl)) ?_; (with_reducible refine (bits_Unpack.calls _ _ l0 a1 a2 t170 t171 _ ?side1 ?side2 A10.out).mono ?_); (case side1 => repeat (first | exact (Kd.C_below HR0.out HB.out) | (with_reducible refine Kd.C_alloc ?_ _) | (with_reducible refine Kd.C_drewN ?_ _) | (with_reducible refine Kd.C_drew ?_))); (case side2 => exact HC0.out); rintro e w27 ⟨v172, rfl, ho0, hb⟩; refine ⟨_, rfl, ?_⟩; have n0_ := Aside0.mk (Kd.R_lower ho0 (below_size (by repeat (first | (with_reducible first | exact HB.out | apply below_alloc | apply pw_below_drewN | apply below_drew1) | exact HB.out)))); have n1_ := Aside0.mk (below_step (by repeat (first | (with_reducible first | exact HB.out | apply below_alloc | apply pw_below_drewN | apply below_drew1) | exact HB.out)) hb); clear HB; have HO173 := n0_; have HB := n1_; clear n0_ n1_; (try clear hb); (try clear hb2); (try clear hk); (try clear hi); (try clear ho0)) | ((with_reducible refine gate_callee (f := 16) rfl ?_); refine goesL_ (some 35) rfl rfl Try.func16 (by kernel_rfl) rfl #[.slice A0 l0.length c0, .int .i64 a1, .int .i64 a2] rfl (by (try simp only [List.map_toArray, List.map_cons, List.map_nil]); first | done | rfl | (simp only [List.length_drop, List.length_take]; rfl)) ?_; (with_reducible refine (winnowerref02_Unpack.calls _ _ l0 a1 a2 t174 t175 _ ?side1 ?side2 A11.out).mono ?_); (case side1 => repeat (first | exact (Kd.C_below HR0.out HB.out) | (with_reducible refine Kd.C_alloc ?_ _) | (with_reducible refine Kd.C_drewN ?_ _) | (with_reducible refine Kd.C_drew ?_))); (case side2 => exact HC0.out); rintro e w28 ⟨v176, rfl, ho0, hb⟩; refine ⟨_, rfl, ?_⟩; have n0_ := Aside0.mk (Kd.R_elder' (by (with_reducible repeat (first | apply Kd.R_alloc | apply Kd.R_drewN | apply Kd.R_drew)); exact HO173.out) (Kd.R_base ho0) hb); have n1_ := Aside0.mk (Kd.R_lower (Kd.R_new' ho0 (Kd.R_lt (by (with_reducible repeat (first | apply Kd.R_alloc | apply Kd.R_drewN | apply Kd.R_drew)); exact HO173.out))) (below_size (by repeat (first | (with_reducible first | exact HB.out | apply below_alloc | apply pw_below_drewN | apply below_drew1) | exact HB.out)))); have n2_ := Aside0.mk (below_step (by repeat (first | (with_reducible first | exact HB.out | apply below_alloc | apply pw_below_drewN | apply below_drew1) | exact HB.out)) hb); clear HO173; clear HB; have HO173 := n0_; have HO177 := n1_; have HB := n2_; clear n0_ n1_ n2_; (try clear hb); (try clear hb2); (try clear hk); (try clear hi); (try clear ho0); obtain ⟨Ao29, co29, eo29⟩ := Kd.R_slice HO173.out; subst eo29; obtain ⟨Ao30, co30, eo30⟩ := Kd.R_slice HO177.out; subst eo30) | ((with_reducible refine gate_callee (f := 17) rfl ?_); refine goesL_ (some 40) rfl rfl Try.func17 (by kernel_rfl) rfl #[.slice Ao29 t170.length co29, .slice Ao30 t174.length co30] rfl (by (try simp only [List.map_toArray, List.map_cons, List.map_nil]); first | done | rfl | (simp only [List.length_drop, List.length_take]; rfl)) ?_; (with_reducible refine (winnowerref01_Ints.calls _ _ t170 _ _ t174 false _ ?side1 ?side2 ?side3 ?side4 A12.out).mono ?_); (case side1 => repeat (first | exact (Kd.R_reads' HO173.out).2.2 | (with_reducible refine Kd.C_alloc ?_ _) | (with_reducible refine Kd.C_drewN ?_ _) | (with_reducible refine Kd.C_drew ?_))); (case side2 => exact (Kd.R_reads' HO173.out).2.1); (case side3 => repeat (first | exact (Kd.R_reads' HO177.out).2.2 | (with_reducible refine Kd.C_alloc ?_ _) | (with_reducible refine Kd.C_drewN ?_ _) | (with_reducible refine Kd.C_drew ?_))); (case side4 => exact (Kd.R_reads' HO177.out).2.1); rintro e w' ⟨rfl, ⟨nd, rfl⟩⟩; refine ⟨_, rfl, ?_⟩))
          go_ret
          exact ⟨by first | rfl | (simp [errW_none, errW_some] <;> rfl) | (simp [*, errW_none, errW_some] <;> rfl), by repeat (first | (with_reducible first | exact HB.out | apply below_alloc | apply pw_below_drewN | apply below_drew1) | exact HB.out)⟩

/-- THE ONE PURE STATEMENT of winnowerlaw02_BitsUnpacks: yours. -/
def winnowerlaw02_BitsUnpacks.Pure : Prop := ∀ (l0 : List Int) (a1 : Int) (a2 : Int) (a3 : Int), l0.length ≤ maxLen → l0.length * 1 ≤ 140737488351232 → (∀ x ∈ l0, (Lit.int .u8 x).wf = true) → (Lit.int .i64 a1).wf = true → (Lit.int .i64 a2).wf = true → (Lit.int .i64 a3).wf = true → ∃ k, winnowerlaw02_BitsUnpacks.f k l0 a1 a2 a3 = some true
theorem winnowerlaw02_BitsUnpacks.walk (P : winnowerlaw02_BitsUnpacks.Pure) (a0 : Option Addr) (len0 cap0 : Nat) (z0 : List Int) (a1 : Int) (a2 : Int) (a3 : Int) (w : World) (w0 : (a0 = none ∧ len0 = 0 ∧ cap0 = 0 ∧ z0 = []) ∨ ∃ x, a0 = some x ∧ len0 ≤ cap0 ∧ cap0 ≤ maxLen ∧ z0.length = cap0 ∧ (∀ i, i < z0.length → w.cell? (x.add i) = some (.int .u8 (z0.getD i 0))) ∧ ∀ n ∈ z0, (Lit.int .u8 n).wf = true) (y0 : len0 * 1 ≤ 140737488351232) (w1 : (Lit.int .i64 a1).wf = true) (w2 : (Lit.int .i64 a2).wf = true) (w3 : (Lit.int .i64 a3).wf = true) :
    Calls Try.prog 4 #[.slice a0 len0 cap0, .int .i64 a1, .int .i64 a2, .int .i64 a3] w fun e w' => e = .returned (.bool true) ∧ Below w.heap.size w w' := by
  obtain ⟨l0, rfl, hr0, hm0, hw0, hc0⟩ := ReadsInt.ofRowC w0
  obtain ⟨k, h⟩ := P l0 a1 a2 a3 hm0 y0 hw0 w1 w2 w3
  refine (winnowerlaw02_BitsUnpacks.calls k _ _ l0 a1 a2 a3 true w (Kd.C_of_reads (d := (0 : Int)) (h1 := fun _ => rfl) hr0) hc0 h).mono ?_
  rintro e w' ⟨rfl, hd⟩
  exact ⟨rfl, hd⟩

/-! ### winnowerlaw02_BitsBack: function 5 -/
mutual
def winnowerlaw02_BitsBack.j0 : Nat → List Int → Int → Bool → Bool → Option (Bool)
  | 0, _, _, _, _ => none
  | k + 1, x0, x1, x5, x19 => if x19 = true then (some x5) else ((bits_Pack.f x0 x1).bind fun bt182 => (if bt182.2 = 0 then ((bits_Unpack.f bt182.1 (x0.length : Int) x1).bind fun bt186 => ((winnowerref01_Ints.f x0 bt186.1).bind fun t190 => (if bt186.2 = 0 then (if t190 = true then (winnowerlaw02_BitsBack.j1 k x0 x1 bt182.1 ((bt182.1.length : Int) != (wrap64 (Int.tdiv (wrap64 ((wrap64 ((x0.length : Int) * x1)) + 7)) 8)))) else (winnowerlaw02_BitsBack.j1 k x0 x1 bt182.1 true)) else (winnowerlaw02_BitsBack.j1 k x0 x1 bt182.1 true)))) else (if bt182.2 = 1 then (some ((bt182.1.length : Int) == 0)) else (some false))))
def winnowerlaw02_BitsBack.j1 : Nat → List Int → Int → List Int → Bool → Option (Bool)
  | 0, _, _, _, _ => none
  | k + 1, x0, x1, x6, x63 => if x63 = true then (some false) else (winnowerlaw02_BitsBack.l0 k x0 x1 x6 0)
def winnowerlaw02_BitsBack.l0 : Nat → List Int → Int → List Int → Int → Option (Bool)
  | 0, _, _, _, _ => none
  | k + 1, x0, x1, x6, x11 => if x11 < (x0.length : Int) then ((bits_At.f x6 x11 x1).bind fun t191 => (if 0 ≤ x11 then (if t191 = (rd x0 x11) then (winnowerlaw02_BitsBack.l0 k x0 x1 x6 (wrap64 (x11 + 1))) else (some false)) else (none))) else ((bits_At.f x6 (wrap64 ((wrap64 (8 * (x6.length : Int))) + 1)) x1).bind fun t193 => (some (t193 == 0)))
end
def winnowerlaw02_BitsBack.f (k : Nat) (l0 : List Int) (a1 : Int) : Option (Bool) := (winnowerlaw02_awake.f).bind fun t181 => (if t181 = true then (winnowerlaw02_BitsBack.j0 k l0 a1 t181 (decide ((l0.length : Int) > 600))) else (winnowerlaw02_BitsBack.j0 k l0 a1 t181 true))
theorem winnowerlaw02_BitsBack.mono_l : ∀ k, (∀ y0 y1 y2 y3, LeO (winnowerlaw02_BitsBack.j0 k y0 y1 y2 y3) (winnowerlaw02_BitsBack.j0 (k + 1) y0 y1 y2 y3)) ∧ (∀ y0 y1 y2 y3, LeO (winnowerlaw02_BitsBack.j1 k y0 y1 y2 y3) (winnowerlaw02_BitsBack.j1 (k + 1) y0 y1 y2 y3)) ∧ (∀ y0 y1 y2 y3, LeO (winnowerlaw02_BitsBack.l0 k y0 y1 y2 y3) (winnowerlaw02_BitsBack.l0 (k + 1) y0 y1 y2 y3))
  | 0 => ⟨fun _ _ _ _ r h => by simp [winnowerlaw02_BitsBack.j0] at h, fun _ _ _ _ r h => by simp [winnowerlaw02_BitsBack.j1] at h, fun _ _ _ _ r h => by simp [winnowerlaw02_BitsBack.l0] at h⟩
  | k + 1 => by
    obtain ⟨ih0, ih1, ih2⟩ := winnowerlaw02_BitsBack.mono_l k
    refine ⟨?_, ?_, ?_⟩
    · intro y0 y1 y2 y3
      unfold winnowerlaw02_BitsBack.j0
      repeat' first
      | (with_reducible exact ih0 _ _ _ _)
      | (with_reducible exact ih1 _ _ _ _)
      | (with_reducible exact ih2 _ _ _ _)
      | (with_reducible exact LeO.refl _)
      | (with_reducible exact LeO.none _)
      | (with_reducible refine LeO.ite ?_ ?_)
      | (with_reducible refine LeO.bind ?_ (fun _ => ?_))
      | exact ih0 _ _ _ _
      | exact ih1 _ _ _ _
      | exact ih2 _ _ _ _
      | exact LeO.none _
      | refine LeO.ite ?_ ?_
      | refine LeO.bind ?_ (fun _ => ?_)
    · intro y0 y1 y2 y3
      unfold winnowerlaw02_BitsBack.j1
      repeat' first
      | (with_reducible exact ih0 _ _ _ _)
      | (with_reducible exact ih1 _ _ _ _)
      | (with_reducible exact ih2 _ _ _ _)
      | (with_reducible exact LeO.refl _)
      | (with_reducible exact LeO.none _)
      | (with_reducible refine LeO.ite ?_ ?_)
      | (with_reducible refine LeO.bind ?_ (fun _ => ?_))
      | exact ih0 _ _ _ _
      | exact ih1 _ _ _ _
      | exact ih2 _ _ _ _
      | exact LeO.none _
      | refine LeO.ite ?_ ?_
      | refine LeO.bind ?_ (fun _ => ?_)
    · intro y0 y1 y2 y3
      unfold winnowerlaw02_BitsBack.l0
      repeat' first
      | (with_reducible exact ih0 _ _ _ _)
      | (with_reducible exact ih1 _ _ _ _)
      | (with_reducible exact ih2 _ _ _ _)
      | (with_reducible exact LeO.refl _)
      | (with_reducible exact LeO.none _)
      | (with_reducible refine LeO.ite ?_ ?_)
      | (with_reducible refine LeO.bind ?_ (fun _ => ?_))
      | exact ih0 _ _ _ _
      | exact ih1 _ _ _ _
      | exact ih2 _ _ _ _
      | exact LeO.none _
      | refine LeO.ite ?_ ?_
      | refine LeO.bind ?_ (fun _ => ?_)
theorem winnowerlaw02_BitsBack.mono : ∀ a0 a1 k, LeO (winnowerlaw02_BitsBack.f k a0 a1) (winnowerlaw02_BitsBack.f (k + 1) a0 a1) := by
  intro a0 a1 k
  obtain ⟨ih0, ih1, ih2⟩ := winnowerlaw02_BitsBack.mono_l k
  unfold winnowerlaw02_BitsBack.f
  repeat' first
      | (with_reducible exact ih0 _ _ _ _)
      | (with_reducible exact ih1 _ _ _ _)
      | (with_reducible exact ih2 _ _ _ _)
      | (with_reducible exact LeO.refl _)
      | (with_reducible exact LeO.none _)
      | (with_reducible refine LeO.ite ?_ ?_)
      | (with_reducible refine LeO.bind ?_ (fun _ => ?_))
      | exact ih0 _ _ _ _
      | exact ih1 _ _ _ _
      | exact ih2 _ _ _ _
      | exact LeO.none _
      | refine LeO.ite ?_ ?_
      | refine LeO.bind ?_ (fun _ => ?_)
def winnowerlaw02_BitsBack.T14 : Bool × List (List Nat × List Nat) := (true, [([], []), ([], []), ([], []), ([0, 1, 2], [0, 1, 2]), ([], []), ([], []), ([4, 5], [4, 5]), ([6], [6]), ([3, 7], [3, 7])])
def winnowerlaw02_BitsBack.B14 : List Nat := [0, 0, 0, 7, 0, 0, 48, 112, 255]
theorem winnowerlaw02_BitsBack.tab14 : rtab .any (opsOf Try.f5 14) = winnowerlaw02_BitsBack.T14 := by kernel_rfl
theorem winnowerlaw02_BitsBack.bits14 : waitsOk winnowerlaw02_BitsBack.T14.2 winnowerlaw02_BitsBack.B14 = true := by kernel_rfl
set_option maxHeartbeats 8000000 in
set_option maxRecDepth 100000 in
theorem winnowerlaw02_BitsBack.calls (k : Nat) (A0 : Option Addr) (c0 : Nat) (l0 : List Int) (a1 : Int) (r : Bool) (w : World) (hr0 : Kd.C (Kd.int .i64) w A0 l0.length l0) (hc0 : l0.length ≤ c0) (h : winnowerlaw02_BitsBack.f k l0 a1 = some r) :
    Calls Try.prog 5 #[.slice A0 l0.length c0, .int .i64 a1] w fun e w' => e = .returned (.bool r) ∧ Below w.heap.size w w' := by
  have HR0 := Aside0.mk hr0
  have HC0 := Aside0.mk hc0
  clear hr0 hc0
  have HB := Aside0.mk (Below.refl w.heap.size w)
  have H : ((winnowerlaw02_awake.f).bind fun t181 => (if t181 = true then (winnowerlaw02_BitsBack.j0 k l0 a1 t181 (decide ((l0.length : Int) > 600))) else (winnowerlaw02_BitsBack.j0 k l0 a1 t181 true))) = some r := h
  clear h
  replace H := Option.bind_eq_some_iff.mp H
  obtain ⟨t181, A30, H⟩ := H
  replace H : (if t181 = true then (winnowerlaw02_BitsBack.j0 k l0 a1 t181 (decide ((l0.length : Int) > 600))) else (winnowerlaw02_BitsBack.j0 k l0 a1 t181 true)) = some r := H
  have A3 := Aside0.mk A30
  clear A30
  have HC4 := Aside0.mk H
  clear H
  go_enter Try.func5, Try.ntmps5
  go_upto_region 2 with (first | ((with_reducible refine gate_callee (f := 9) rfl ?_); refine goesL_ (some 12) rfl rfl Try.func9 (by kernel_rfl) rfl #[] rfl (by (try simp only [List.map_toArray, List.map_cons, List.map_nil]); first | done | rfl | (simp only [List.length_drop, List.length_take]; rfl)) ?_; (with_reducible refine (winnowerlaw02_awake.calls  t181 _ A3.out).mono ?_); rintro e w5 ⟨rfl, hb⟩; refine ⟨_, rfl, ?_⟩; have n0_ := Aside0.mk (below_step (by repeat (first | (with_reducible first | exact HB.out | apply below_alloc | apply pw_below_drewN | apply below_drew1) | exact HB.out)) hb); clear HB; have HB := n0_; clear n0_; (try clear hb); (try clear hb2); (try clear hk); (try clear hi)))
  (try simp only [Act.put, List.setIfInBounds_toArray, List.set_cons_zero, List.set_cons_succ])
  go_cut [19] (fun v19 wc => ∃ (kq : Nat) (x19_3 : Bool), v19 = .bool x19_3 ∧ Aside0 (winnowerlaw02_BitsBack.j0 kq l0 a1 t181 x19_3 = some r) ∧ Aside0 (kq ≤ k) ∧ Aside0 (Below w.heap.size w wc))
  case first =>
    have H := HC4.out
    clear HC4
    by_cases c6 : t181 = true
    · subst c6
      have H1 : (winnowerlaw02_BitsBack.j0 k l0 a1 true (decide ((l0.length : Int) > 600))) = some r := by rw [if_pos rfl] at H; exact H
      clear H
      have H := H1
      clear H1
      have H' := Aside0.mk H
      clear H
      go_wp2
      go_meet
      case rel => exact ⟨_, (decide ((l0.length : Int) > 600)), (by first | rfl | (simp; done) | (simp [*]; done)), H', ⟨by first | omega | exact Nat.le_refl _⟩, ⟨by repeat (first | (with_reducible first | exact HB.out | apply below_alloc | apply pw_below_drewN | apply below_drew1) | exact HB.out)⟩⟩
    · replace c6 := Bool.eq_false_iff.mpr c6
      subst c6
      have H1 : (winnowerlaw02_BitsBack.j0 k l0 a1 false true) = some r := by rw [if_neg (show ¬ (false = true) by decide)] at H; exact H
      clear H
      have H := H1
      clear H1
      have H' := Aside0.mk H
      clear H
      go_wp2
      go_meet
      case rel => exact ⟨_, (true), (by first | rfl | (simp; done) | (simp [*]; done)), H', ⟨by first | omega | exact Nat.le_refl _⟩, ⟨by repeat (first | (with_reducible first | exact HB.out | apply below_alloc | apply pw_below_drewN | apply below_drew1) | exact HB.out)⟩⟩
  case rest =>
    clear HC4
    try clear p2
    try clear c5
    try clear c6
    obtain ⟨kq, x19_3, rfl, HA, HJ3, HB⟩ := hcut
    cases kq with
    | zero => exact absurd HA.out (by simp [winnowerlaw02_BitsBack.j0])
    | succ kj3 =>
      have H := HA.out
      clear HA
      simp only [winnowerlaw02_BitsBack.j0] at H
      by_cases c7 : x19_3 = true
      · subst c7
        have H1 : (some t181) = some r := by rw [if_pos rfl] at H; exact H
        clear H
        have H := H1
        clear H1
        obtain rfl := Option.some.inj H
        go_wp2
        go_ret
        exact ⟨by first | rfl | (simp [errW_none, errW_some] <;> rfl) | (simp [*, errW_none, errW_some] <;> rfl), by repeat (first | (with_reducible first | exact HB.out | apply below_alloc | apply pw_below_drewN | apply below_drew1) | exact HB.out)⟩
      · replace c7 := Bool.eq_false_iff.mpr c7
        subst c7
        have H1 : ((bits_Pack.f l0 a1).bind fun bt182 => (if bt182.2 = 0 then ((bits_Unpack.f bt182.1 (l0.length : Int) a1).bind fun bt186 => ((winnowerref01_Ints.f l0 bt186.1).bind fun t190 => (if bt186.2 = 0 then (if t190 = true then (winnowerlaw02_BitsBack.j1 kj3 l0 a1 bt182.1 ((bt182.1.length : Int) != (wrap64 (Int.tdiv (wrap64 ((wrap64 ((l0.length : Int) * a1)) + 7)) 8)))) else (winnowerlaw02_BitsBack.j1 kj3 l0 a1 bt182.1 true)) else (winnowerlaw02_BitsBack.j1 kj3 l0 a1 bt182.1 true)))) else (if bt182.2 = 1 then (some ((bt182.1.length : Int) == 0)) else (some false)))) = some r := by rw [if_neg (show ¬ (false = true) by decide)] at H; exact H
        clear H
        have H := H1
        clear H1
        replace H := Option.bind_eq_some_iff.mp H
        obtain ⟨⟨t182, t183⟩, A80, H⟩ := H
        replace H : (if t183 = 0 then ((bits_Unpack.f t182 (l0.length : Int) a1).bind fun bt186 => ((winnowerref01_Ints.f l0 bt186.1).bind fun t190 => (if bt186.2 = 0 then (if t190 = true then (winnowerlaw02_BitsBack.j1 kj3 l0 a1 t182 ((t182.length : Int) != (wrap64 (Int.tdiv (wrap64 ((wrap64 ((l0.length : Int) * a1)) + 7)) 8)))) else (winnowerlaw02_BitsBack.j1 kj3 l0 a1 t182 true)) else (winnowerlaw02_BitsBack.j1 kj3 l0 a1 t182 true)))) else (if t183 = 1 then (some ((t182.length : Int) == 0)) else (some false))) = some r := H
        have A8 := Aside0.mk A80
        clear A80
        by_cases c9 : t183 = 0
        · rw [if_pos c9] at H
          have c9b0 : (t183 == 0) = true := beq_iff_eq.mpr c9
          have c9b1 : (t183 != 0) = false := bne_eq_false_iff_eq.mpr c9
          clear c9
          replace H := Option.bind_eq_some_iff.mp H
          obtain ⟨⟨t186, t187⟩, A100, H⟩ := H
          replace H : ((winnowerref01_Ints.f l0 t186).bind fun t190 => (if t187 = 0 then (if t190 = true then (winnowerlaw02_BitsBack.j1 kj3 l0 a1 t182 ((t182.length : Int) != (wrap64 (Int.tdiv (wrap64 ((wrap64 ((l0.length : Int) * a1)) + 7)) 8)))) else (winnowerlaw02_BitsBack.j1 kj3 l0 a1 t182 true)) else (winnowerlaw02_BitsBack.j1 kj3 l0 a1 t182 true))) = some r := H
          have A10 := Aside0.mk A100
          clear A100
          replace H := Option.bind_eq_some_iff.mp H
          obtain ⟨t190, A110, H⟩ := H
          replace H : (if t187 = 0 then (if t190 = true then (winnowerlaw02_BitsBack.j1 kj3 l0 a1 t182 ((t182.length : Int) != (wrap64 (Int.tdiv (wrap64 ((wrap64 ((l0.length : Int) * a1)) + 7)) 8)))) else (winnowerlaw02_BitsBack.j1 kj3 l0 a1 t182 true)) else (winnowerlaw02_BitsBack.j1 kj3 l0 a1 t182 true)) = some r := H
          have A11 := Aside0.mk A110
          clear A110
          have HC12 := Aside0.mk H
          clear H
          go_upto_region 9 with (first | ((with_reducible refine gate_callee (f := 10) rfl ?_); refine goesL_ (some 24) rfl rfl Try.func10 (by kernel_rfl) rfl #[.slice A0 l0.length c0, .int .i64 a1] rfl (by (try simp only [List.map_toArray, List.map_cons, List.map_nil]); first | done | rfl | (simp only [List.length_drop, List.length_take]; rfl)) ?_; (with_reducible refine (bits_Pack.calls _ _ l0 a1 t182 t183 _ ?side1 ?side2 A8.out).mono ?_); (case side1 => repeat (first | exact (Kd.C_below HR0.out HB.out) | (with_reducible refine Kd.C_alloc ?_ _) | (with_reducible refine Kd.C_drewN ?_ _) | (with_reducible refine Kd.C_drew ?_))); (case side2 => exact HC0.out); rintro e w13 ⟨v184, rfl, ho0, hb⟩; refine ⟨_, rfl, ?_⟩; have n0_ := Aside0.mk (Kd.R_lower ho0 (below_size (by repeat (first | (with_reducible first | exact HB.out | apply below_alloc | apply pw_below_drewN | apply below_drew1) | exact HB.out)))); have n1_ := Aside0.mk (below_step (by repeat (first | (with_reducible first | exact HB.out | apply below_alloc | apply pw_below_drewN | apply below_drew1) | exact HB.out)) hb); clear HB; have HO185 := n0_; have HB := n1_; clear n0_ n1_; (try clear hb); (try clear hb2); (try clear hk); (try clear hi); (try clear ho0); obtain ⟨Ao14, co14, eo14⟩ := Kd.R_slice HO185.out; subst eo14) | ((with_reducible refine gate_callee (f := 15) rfl ?_); refine goesL_ (some 41) rfl rfl Try.func15 (by kernel_rfl) rfl #[.slice Ao14 t182.length co14, .int .i64 (l0.length : Int), .int .i64 a1] rfl (by (try simp only [List.map_toArray, List.map_cons, List.map_nil]); first | done | rfl | (simp only [List.length_drop, List.length_take]; rfl)) ?_; (with_reducible refine (bits_Unpack.calls _ _ t182 (l0.length : Int) a1 t186 t187 _ ?side1 ?side2 A10.out).mono ?_); (case side1 => repeat (first | exact (Kd.R_reads' HO185.out).2.2 | (with_reducible refine Kd.C_alloc ?_ _) | (with_reducible refine Kd.C_drewN ?_ _) | (with_reducible refine Kd.C_drew ?_))); (case side2 => exact (Kd.R_reads' HO185.out).2.1); rintro e w15 ⟨v188, rfl, ho0, hb⟩; refine ⟨_, rfl, ?_⟩; have n0_ := Aside0.mk (Kd.R_below (by (with_reducible repeat (first | apply Kd.R_alloc | apply Kd.R_drewN | apply Kd.R_drew)); exact HO185.out) hb); have n1_ := Aside0.mk (Kd.R_lower ho0 (below_size (by repeat (first | (with_reducible first | exact HB.out | apply below_alloc | apply pw_below_drewN | apply below_drew1) | exact HB.out)))); have n2_ := Aside0.mk (below_step (by repeat (first | (with_reducible first | exact HB.out | apply below_alloc | apply pw_below_drewN | apply below_drew1) | exact HB.out)) hb); clear HO185; clear HB; have HO185 := n0_; have HO189 := n1_; have HB := n2_; clear n0_ n1_ n2_; (try clear hb); (try clear hb2); (try clear hk); (try clear hi); (try clear ho0); obtain ⟨Ao16, co16, eo16⟩ := Kd.R_slice HO189.out; subst eo16) | ((with_reducible refine gate_callee (f := 17) rfl ?_); refine goesL_ (some 46) rfl rfl Try.func17 (by kernel_rfl) rfl #[.slice A0 l0.length c0, .slice Ao16 t186.length co16] rfl (by (try simp only [List.map_toArray, List.map_cons, List.map_nil]); first | done | rfl | (simp only [List.length_drop, List.length_take]; rfl)) ?_; (with_reducible refine (winnowerref01_Ints.calls _ _ l0 _ _ t186 t190 _ ?side1 ?side2 ?side3 ?side4 A11.out).mono ?_); (case side1 => repeat (first | exact (Kd.C_below HR0.out HB.out) | (with_reducible refine Kd.C_alloc ?_ _) | (with_reducible refine Kd.C_drewN ?_ _) | (with_reducible refine Kd.C_drew ?_))); (case side2 => exact HC0.out); (case side3 => repeat (first | exact (Kd.R_reads' HO189.out).2.2 | (with_reducible refine Kd.C_alloc ?_ _) | (with_reducible refine Kd.C_drewN ?_ _) | (with_reducible refine Kd.C_drew ?_))); (case side4 => exact (Kd.R_reads' HO189.out).2.1); rintro e w' ⟨rfl, ⟨nd, rfl⟩⟩; refine ⟨_, rfl, ?_⟩))
          (try simp only [Act.put, List.setIfInBounds_toArray, List.set_cons_zero, List.set_cons_succ])
          go_cut [63] (fun v63 wc => ∃ (kq : Nat) (x63_11 : Bool), v63 = .bool x63_11 ∧ Aside0 (winnowerlaw02_BitsBack.j1 kq l0 a1 t182 x63_11 = some r) ∧ Aside0 (kq ≤ kj3) ∧ Aside0 (Kd.R (Kd.int .u8) 5 wc w.heap.size (fun _ => True) (.slice Ao14 t182.length co14) t182) ∧ Aside0 (Below w.heap.size w wc))
          case first =>
            have H := HC12.out
            clear HC12
            by_cases c17 : t187 = 0
            · rw [if_pos c17] at H
              have c17b0 : (t187 == 0) = true := beq_iff_eq.mpr c17
              have c17b1 : (t187 != 0) = false := bne_eq_false_iff_eq.mpr c17
              clear c17
              (first | rw [c17b0] | (simp only [i64_w, i32_w]; rw [c17b0]) | skip)
              by_cases c18 : t190 = true
              · subst c18
                have H1 : (winnowerlaw02_BitsBack.j1 kj3 l0 a1 t182 ((t182.length : Int) != (wrap64 (Int.tdiv (wrap64 ((wrap64 ((l0.length : Int) * a1)) + 7)) 8)))) = some r := by rw [if_pos rfl] at H; exact H
                clear H
                have H := H1
                clear H1
                have H' := Aside0.mk H
                clear H
                go_wp2
                go_meet
                case rel => exact ⟨_, (((t182.length : Int) != (wrap64 (Int.tdiv (wrap64 ((wrap64 ((l0.length : Int) * a1)) + 7)) 8)))), (by first | rfl | (simp; done) | (simp [*]; done)), H', ⟨by have := HJ3.out; first | omega | exact Nat.le_refl _⟩, ⟨by (with_reducible repeat (first | apply Kd.R_alloc | apply Kd.R_drewN | apply Kd.R_drew)); exact HO185.out⟩, ⟨by repeat (first | (with_reducible first | exact HB.out | apply below_alloc | apply pw_below_drewN | apply below_drew1) | exact HB.out)⟩⟩
              · replace c18 := Bool.eq_false_iff.mpr c18
                subst c18
                have H1 : (winnowerlaw02_BitsBack.j1 kj3 l0 a1 t182 true) = some r := by rw [if_neg (show ¬ (false = true) by decide)] at H; exact H
                clear H
                have H := H1
                clear H1
                have H' := Aside0.mk H
                clear H
                go_wp2
                go_meet
                case rel => exact ⟨_, (true), (by first | rfl | (simp; done) | (simp [*]; done)), H', ⟨by have := HJ3.out; first | omega | exact Nat.le_refl _⟩, ⟨by (with_reducible repeat (first | apply Kd.R_alloc | apply Kd.R_drewN | apply Kd.R_drew)); exact HO185.out⟩, ⟨by repeat (first | (with_reducible first | exact HB.out | apply below_alloc | apply pw_below_drewN | apply below_drew1) | exact HB.out)⟩⟩
            · rw [if_neg c17] at H
              have c17b0 : (t187 == 0) = false := beq_eq_false_iff_ne.mpr c17
              have c17b1 : (t187 != 0) = true := bne_iff_ne.mpr c17
              (first | rw [c17b0] | (simp only [i64_w, i32_w]; rw [c17b0]) | skip)
              have H' := Aside0.mk H
              clear H
              go_wp2
              go_meet
              case rel => exact ⟨_, (true), (by first | rfl | (simp; done) | (simp [*]; done)), H', ⟨by have := HJ3.out; first | omega | exact Nat.le_refl _⟩, ⟨by (with_reducible repeat (first | apply Kd.R_alloc | apply Kd.R_drewN | apply Kd.R_drew)); exact HO185.out⟩, ⟨by repeat (first | (with_reducible first | exact HB.out | apply below_alloc | apply pw_below_drewN | apply below_drew1) | exact HB.out)⟩⟩
          case rest =>
            clear HC12
            try clear c1
            try clear p2
            try clear c5
            try clear c6
            try clear p6
            try clear c7
            try clear c9
            try clear c9b0
            try clear c9b1
            try clear c10
            try clear c15
            try clear c17
            try clear c17b0
            try clear c17b1
            try clear c18
            try clear p2
            obtain ⟨kq, x63_11, rfl, HA, HJ11, HO_6, HB⟩ := hcut
            cases kq with
            | zero => exact absurd HA.out (by simp [winnowerlaw02_BitsBack.j1])
            | succ kj11 =>
              have H := HA.out
              clear HA
              simp only [winnowerlaw02_BitsBack.j1] at H
              by_cases c19 : x63_11 = true
              · subst c19
                have H1 : (some false) = some r := by rw [if_pos rfl] at H; exact H
                clear H
                have H := H1
                clear H1
                obtain rfl := Option.some.inj H
                go_wp2
                go_ret
                exact ⟨by first | rfl | (simp [errW_none, errW_some] <;> rfl) | (simp [*, errW_none, errW_some] <;> rfl), by repeat (first | (with_reducible first | exact HB.out | apply below_alloc | apply pw_below_drewN | apply below_drew1) | exact HB.out)⟩
              · replace c19 := Bool.eq_false_iff.mpr c19
                subst c19
                have H1 : (winnowerlaw02_BitsBack.l0 kj11 l0 a1 t182 0) = some r := by rw [if_neg (show ¬ (false = true) by decide)] at H; exact H
                clear H
                have H := H1
                clear H1
                have H' := Aside0.mk H
                clear H
                go_wp2
                go_loopg [11] kj11 (fun kq v11 w' => ∃ (x11_3 : Int), v11 = .int .i64 x11_3 ∧ Aside0 (winnowerlaw02_BitsBack.l0 kq l0 a1 t182 x11_3 = some r) ∧ Aside0 (kq ≤ kj11) ∧ Aside0 (Kd.R (Kd.int .u8) 5 w' w.heap.size (fun _ => True) (.slice Ao14 t182.length co14) t182) ∧ Aside0 (Below w.heap.size w w'))
                case atStart => exact ⟨(0), (by first | rfl | (simp; done) | (simp [*]; done)), H', ⟨Nat.le_refl _⟩, ⟨by (with_reducible repeat (first | apply Kd.R_alloc | apply Kd.R_drewN | apply Kd.R_drew)); exact HO_6.out⟩, ⟨by repeat (first | (with_reducible first | exact HB.out | apply below_alloc | apply pw_below_drewN | apply below_drew1) | exact HB.out)⟩⟩
                case round =>
                  clear H'
                  try clear c1
                  try clear p2
                  try clear c5
                  try clear c6
                  try clear p6
                  try clear c7
                  try clear c9
                  try clear c9b0
                  try clear c9b1
                  try clear c10
                  try clear c15
                  try clear c17
                  try clear c17b0
                  try clear c17b1
                  try clear c18
                  try clear c19
                  try clear p2
                  try clear p6
                  obtain ⟨x11_3, rfl, HA, HK3, HO_6, HB⟩ := hrel
                  cases gk with
                  | zero => exact absurd HA.out (by simp [winnowerlaw02_BitsBack.l0])
                  | succ k3 =>
                    have H := HA.out
                    clear HA
                    simp only [winnowerlaw02_BitsBack.l0] at H
                    by_cases c20 : x11_3 < (l0.length : Int)
                    · rw [if_pos c20] at H
                      have c20b0 : decide (x11_3 < (l0.length : Int)) = true := decide_eq_true c20
                      clear c20
                      replace H := Option.bind_eq_some_iff.mp H
                      obtain ⟨t191, A210, H⟩ := H
                      replace H : (if 0 ≤ x11_3 then (if t191 = (rd l0 x11_3) then (winnowerlaw02_BitsBack.l0 k3 l0 a1 t182 (wrap64 (x11_3 + 1))) else (some false)) else (none)) = some r := H
                      have A21 := Aside0.mk A210
                      clear A210
                      by_cases c22 : 0 ≤ x11_3
                      · rw [if_pos c22] at H
                        have c22b0 : decide (0 ≤ x11_3) = true := decide_eq_true c22
                        clear c22
                        by_cases c23 : t191 = (rd l0 x11_3)
                        · rw [if_pos c23] at H
                          have c23b0 : (t191 == (rd l0 x11_3)) = true := beq_iff_eq.mpr c23
                          have c23b1 : (t191 != (rd l0 x11_3)) = false := bne_eq_false_iff_eq.mpr c23
                          clear c23
                          have H' := Aside0.mk H
                          clear H
                          try go_wp2
                          have n0_ := Aside0.mk (Kd.R_drew HO_6.out)
                          have n1_ := Aside0.mk (below_drew1 HB.out)
                          clear HO_6
                          clear HB
                          have HO_6 := n0_
                          have HB := n1_
                          clear n0_ n1_
                          have p192 : 0 ≤ (x11_3 : Int) := of_decide_eq_true (by first | (with_reducible assumption) | assumption)
                          have q192 : x11_3 < (l0.length : Int) := of_decide_eq_true (by first | (with_reducible assumption) | assumption)
                          obtain ⟨ad192, e192, hx192_0⟩ := Kd.at_int HR0.out x11_3 p192 q192
                          have hw192_0 := hx192_0
                          cases e192
                          replace hx192_0 := (HB.out.cell (World.block_lt_of_cell? w _ hx192_0)).trans hx192_0
                          replace p192 := eq_true p192
                          replace q192 := eq_true q192
                          refine start_ (n := 9) (S := fun w' => w'.cell? (ad192.add (x11_3).toNat) = some (.int .i64 (rd l0 x11_3))) (ds := []) #[false, false, false, false, false, false, false, false, false] (by kernel_rfl) rfl rfl (((HB.out.cell (World.block_lt_of_cell? w _ hw192_0)).trans hw192_0)) (fun hHeld => ?_); refine with_tabW winnowerlaw02_BitsBack.tab14 winnowerlaw02_BitsBack.bits14 (fun HT_ HW_ => ?_)
                          generalize wr.drew = w24 at HO_6 HB hx192_0 hHeld ⊢
                          refine pure_ (i := 0) (N := some 70) (v := ?_) (a' := ?_) #[true, false, false, false, false, false, false, false, false] rfl rfl (any_of HT_.out (by kernel_rfl)) (fun _ _ _ h => h) (Or.inl ⟨by rfl, ?_⟩) ?_ ?_
                          rotate_left
                          · intro w'
                            go_simp
                            with_reducible rfl
                          rotate_left
                          · simp only [Act.put, List.setIfInBounds_toArray, List.set_cons_zero, List.set_cons_succ, i64_w, i32_w]
                            rfl
                          refine pure_ (i := 1) (N := some 71) (v := ?_) (a' := ?_) #[true, true, false, false, false, false, false, false, false] rfl rfl (any_of HT_.out (by kernel_rfl)) (fun _ _ _ h => h) (Or.inl ⟨by rfl, ?_⟩) ?_ ?_
                          rotate_left
                          · intro w'
                            go_simp
                            with_reducible rfl
                          rotate_left
                          · simp only [Act.put, List.setIfInBounds_toArray, List.set_cons_zero, List.set_cons_succ, i64_w, i32_w]
                            rfl
                          refine pure_ (i := 2) (N := some 72) (v := ?_) (a' := ?_) #[true, true, true, false, false, false, false, false, false] rfl rfl (any_of HT_.out (by kernel_rfl)) (fun _ _ _ h => h) (Or.inl ⟨by rfl, ?_⟩) ?_ ?_
                          rotate_left
                          · intro w'
                            go_simp
                            with_reducible rfl
                          rotate_left
                          · simp only [Act.put, List.setIfInBounds_toArray, List.set_cons_zero, List.set_cons_succ, i64_w, i32_w]
                            rfl
                          refine pure_ (i := 4) (N := some 74) (v := ?_) (a' := ?_) #[true, true, true, false, true, false, false, false, false] rfl rfl (any_of HT_.out (by kernel_rfl)) (fun _ _ _ h => h) (Or.inl ⟨by rfl, ?_⟩) ?_ ?_
                          rotate_left
                          · intro w'
                            go_simp
                            with_reducible rfl
                          rotate_left
                          · simp only [Act.put, List.setIfInBounds_toArray, List.set_cons_zero, List.set_cons_succ, i64_w, i32_w]
                            rfl
                          refine pure_ (i := 5) (N := some 75) (v := ?_) (a' := ?_) #[true, true, true, false, true, true, false, false, false] rfl rfl (any_of HT_.out (by kernel_rfl)) (fun _ _ _ h => h) (Or.inl ⟨by rfl, ?_⟩) ?_ ?_
                          rotate_left
                          · intro w'
                            go_simp
                            with_reducible rfl
                          rotate_left
                          · simp only [Act.put, List.setIfInBounds_toArray, List.set_cons_zero, List.set_cons_succ, i64_w, i32_w]
                            rfl
                          refine pure_ (i := 6) (N := some 76) (v := ?_) (a' := ?_) #[true, true, true, false, true, true, true, false, false] rfl rfl (any_of HT_.out (by kernel_rfl)) (fun _ _ _ h => h) (Or.inl ⟨by rfl, ?_⟩) ?_ ?_
                          rotate_left
                          · intro w'
                            go_simp
                            with_reducible rfl
                          rotate_left
                          · simp only [Act.put, List.setIfInBounds_toArray, List.set_cons_zero, List.set_cons_succ, i64_w, i32_w]
                            rfl
                          refine take_ (i := 7) (N := some 77) (v := ?_) (a' := ?_) #[true, true, true, false, true, true, true, true, false] rfl rfl (take_ofW HT_.out HW_.out (by kernel_rfl)) (fun _ _ _ h => h) (Or.inl ⟨by rfl, ?_⟩) hHeld ?_ ?_
                          rotate_left
                          · intro w' s0
                            go_simp
                            with_reducible rfl
                          rotate_left
                          · simp only [Act.put, List.setIfInBounds_toArray, List.set_cons_zero, List.set_cons_succ, i64_w, i32_w]
                            rfl
                          refine one_ (i := 3) (N := some 73) #[true, true, true, true, true, true, true, true, false] rfl rfl (one_of HT_.out (by kernel_rfl)) (by decide) (fun K hK => ?_)
                          refine goes_ Try.func18 (by kernel_rfl) rfl #[.slice Ao14 t182.length co14, .int .i64 x11_3, .int .i64 a1] (by rfl) rfl rfl (by (try simp only [List.map_toArray, List.map_cons, List.map_nil]); first | done | rfl | (simp only [List.length_drop, List.length_take]; rfl)) ?_
                          with_reducible refine (bits_At.calls _ _ t182 x11_3 a1 t191 _ ?side1 ?side2 A21.out).mono ?_
                          (case side1 => repeat (first | exact (Kd.R_reads' HO_6.out).2.2 | (with_reducible refine Kd.C_alloc ?_ _) | (with_reducible refine Kd.C_drewN ?_ _) | (with_reducible refine Kd.C_drew ?_)))
                          (case side2 => exact (Kd.R_reads' HO_6.out).2.1)
                          rintro e w25 ⟨rfl, hb⟩
                          refine ⟨_, rfl, ?_⟩
                          have n0_ := Aside0.mk (Kd.R_below (by (with_reducible repeat (first | apply Kd.R_alloc | apply Kd.R_drewN | apply Kd.R_drew)); exact HO_6.out) hb)
                          have n1_ := Aside0.mk (below_step (by repeat (first | (with_reducible first | exact HB.out | apply below_alloc | apply pw_below_drewN | apply below_drew1) | exact HB.out)) hb)
                          clear HO_6
                          clear HB
                          have HO_6 := n0_
                          have HB := n1_
                          clear n0_ n1_
                          (try clear hb)
                          (try clear hb2)
                          (try clear hk)
                          (try clear hi)
                          refine hK.out _ _ (((HB.out.cell (World.block_lt_of_cell? w _ hw192_0)).trans hw192_0)) (fun hHeld => ?_)
                          clear hK K
                          refine norm_ (a' := ?_) ?_ ?_
                          rotate_left
                          · show Act.put _ (some 73) _ = _
                            simp only [Act.put, List.setIfInBounds_toArray, List.set_cons_zero, List.set_cons_succ, i64_w, i32_w]
                            rfl
                          refine pure_ (i := 8) (N := some 78) (v := ?_) (a' := ?_) #[true, true, true, true, true, true, true, true, true] rfl rfl (any_of HT_.out (by kernel_rfl)) (fun _ _ _ h => h) (Or.inl ⟨by rfl, ?_⟩) ?_ ?_
                          rotate_left
                          · intro w'
                            go_simp
                            with_reducible rfl
                          rotate_left
                          · simp only [Act.put, List.setIfInBounds_toArray, List.set_cons_zero, List.set_cons_succ, i64_w, i32_w]
                            rfl
                          refine done_ (done_of HT_.out (by kernel_rfl)) ?_
                          try go_wp2
                          go_roundg k3
                          case measure => have := HJ3.out; have := HJ11.out; have := HK3.out; omega
                          case rel => exact ⟨(wrap64 (x11_3 + 1)), (by first | rfl | (simp; done) | (simp [*]; done)), H', ⟨by have := HJ3.out; have := HJ11.out; have := HK3.out; omega⟩, ⟨by (with_reducible repeat (first | apply Kd.R_alloc | apply Kd.R_drewN | apply Kd.R_drew)); exact HO_6.out⟩, ⟨by repeat (first | (with_reducible first | exact HB.out | apply below_alloc | apply pw_below_drewN | apply below_drew1) | exact HB.out)⟩⟩
                        · rw [if_neg c23] at H
                          have c23b0 : (t191 == (rd l0 x11_3)) = false := beq_eq_false_iff_ne.mpr c23
                          have c23b1 : (t191 != (rd l0 x11_3)) = true := bne_iff_ne.mpr c23
                          obtain rfl := Option.some.inj H
                          try go_wp2
                          have n0_ := Aside0.mk (Kd.R_drew HO_6.out)
                          have n1_ := Aside0.mk (below_drew1 HB.out)
                          clear HO_6
                          clear HB
                          have HO_6 := n0_
                          have HB := n1_
                          clear n0_ n1_
                          have p192 : 0 ≤ (x11_3 : Int) := of_decide_eq_true (by first | (with_reducible assumption) | assumption)
                          have q192 : x11_3 < (l0.length : Int) := of_decide_eq_true (by first | (with_reducible assumption) | assumption)
                          obtain ⟨ad192, e192, hx192_0⟩ := Kd.at_int HR0.out x11_3 p192 q192
                          have hw192_0 := hx192_0
                          cases e192
                          replace hx192_0 := (HB.out.cell (World.block_lt_of_cell? w _ hx192_0)).trans hx192_0
                          replace p192 := eq_true p192
                          replace q192 := eq_true q192
                          refine start_ (n := 9) (S := fun w' => w'.cell? (ad192.add (x11_3).toNat) = some (.int .i64 (rd l0 x11_3))) (ds := []) #[false, false, false, false, false, false, false, false, false] (by kernel_rfl) rfl rfl (((HB.out.cell (World.block_lt_of_cell? w _ hw192_0)).trans hw192_0)) (fun hHeld => ?_); refine with_tabW winnowerlaw02_BitsBack.tab14 winnowerlaw02_BitsBack.bits14 (fun HT_ HW_ => ?_)
                          generalize wr.drew = w26 at HO_6 HB hx192_0 hHeld ⊢
                          refine pure_ (i := 0) (N := some 70) (v := ?_) (a' := ?_) #[true, false, false, false, false, false, false, false, false] rfl rfl (any_of HT_.out (by kernel_rfl)) (fun _ _ _ h => h) (Or.inl ⟨by rfl, ?_⟩) ?_ ?_
                          rotate_left
                          · intro w'
                            go_simp
                            with_reducible rfl
                          rotate_left
                          · simp only [Act.put, List.setIfInBounds_toArray, List.set_cons_zero, List.set_cons_succ, i64_w, i32_w]
                            rfl
                          refine pure_ (i := 1) (N := some 71) (v := ?_) (a' := ?_) #[true, true, false, false, false, false, false, false, false] rfl rfl (any_of HT_.out (by kernel_rfl)) (fun _ _ _ h => h) (Or.inl ⟨by rfl, ?_⟩) ?_ ?_
                          rotate_left
                          · intro w'
                            go_simp
                            with_reducible rfl
                          rotate_left
                          · simp only [Act.put, List.setIfInBounds_toArray, List.set_cons_zero, List.set_cons_succ, i64_w, i32_w]
                            rfl
                          refine pure_ (i := 2) (N := some 72) (v := ?_) (a' := ?_) #[true, true, true, false, false, false, false, false, false] rfl rfl (any_of HT_.out (by kernel_rfl)) (fun _ _ _ h => h) (Or.inl ⟨by rfl, ?_⟩) ?_ ?_
                          rotate_left
                          · intro w'
                            go_simp
                            with_reducible rfl
                          rotate_left
                          · simp only [Act.put, List.setIfInBounds_toArray, List.set_cons_zero, List.set_cons_succ, i64_w, i32_w]
                            rfl
                          refine pure_ (i := 4) (N := some 74) (v := ?_) (a' := ?_) #[true, true, true, false, true, false, false, false, false] rfl rfl (any_of HT_.out (by kernel_rfl)) (fun _ _ _ h => h) (Or.inl ⟨by rfl, ?_⟩) ?_ ?_
                          rotate_left
                          · intro w'
                            go_simp
                            with_reducible rfl
                          rotate_left
                          · simp only [Act.put, List.setIfInBounds_toArray, List.set_cons_zero, List.set_cons_succ, i64_w, i32_w]
                            rfl
                          refine pure_ (i := 5) (N := some 75) (v := ?_) (a' := ?_) #[true, true, true, false, true, true, false, false, false] rfl rfl (any_of HT_.out (by kernel_rfl)) (fun _ _ _ h => h) (Or.inl ⟨by rfl, ?_⟩) ?_ ?_
                          rotate_left
                          · intro w'
                            go_simp
                            with_reducible rfl
                          rotate_left
                          · simp only [Act.put, List.setIfInBounds_toArray, List.set_cons_zero, List.set_cons_succ, i64_w, i32_w]
                            rfl
                          refine pure_ (i := 6) (N := some 76) (v := ?_) (a' := ?_) #[true, true, true, false, true, true, true, false, false] rfl rfl (any_of HT_.out (by kernel_rfl)) (fun _ _ _ h => h) (Or.inl ⟨by rfl, ?_⟩) ?_ ?_
                          rotate_left
                          · intro w'
                            go_simp
                            with_reducible rfl
                          rotate_left
                          · simp only [Act.put, List.setIfInBounds_toArray, List.set_cons_zero, List.set_cons_succ, i64_w, i32_w]
                            rfl
                          refine take_ (i := 7) (N := some 77) (v := ?_) (a' := ?_) #[true, true, true, false, true, true, true, true, false] rfl rfl (take_ofW HT_.out HW_.out (by kernel_rfl)) (fun _ _ _ h => h) (Or.inl ⟨by rfl, ?_⟩) hHeld ?_ ?_
                          rotate_left
                          · intro w' s0
                            go_simp
                            with_reducible rfl
                          rotate_left
                          · simp only [Act.put, List.setIfInBounds_toArray, List.set_cons_zero, List.set_cons_succ, i64_w, i32_w]
                            rfl
                          refine one_ (i := 3) (N := some 73) #[true, true, true, true, true, true, true, true, false] rfl rfl (one_of HT_.out (by kernel_rfl)) (by decide) (fun K hK => ?_)
                          refine goes_ Try.func18 (by kernel_rfl) rfl #[.slice Ao14 t182.length co14, .int .i64 x11_3, .int .i64 a1] (by rfl) rfl rfl (by (try simp only [List.map_toArray, List.map_cons, List.map_nil]); first | done | rfl | (simp only [List.length_drop, List.length_take]; rfl)) ?_
                          with_reducible refine (bits_At.calls _ _ t182 x11_3 a1 t191 _ ?side1 ?side2 A21.out).mono ?_
                          (case side1 => repeat (first | exact (Kd.R_reads' HO_6.out).2.2 | (with_reducible refine Kd.C_alloc ?_ _) | (with_reducible refine Kd.C_drewN ?_ _) | (with_reducible refine Kd.C_drew ?_)))
                          (case side2 => exact (Kd.R_reads' HO_6.out).2.1)
                          rintro e w27 ⟨rfl, hb⟩
                          refine ⟨_, rfl, ?_⟩
                          have n0_ := Aside0.mk (Kd.R_below (by (with_reducible repeat (first | apply Kd.R_alloc | apply Kd.R_drewN | apply Kd.R_drew)); exact HO_6.out) hb)
                          have n1_ := Aside0.mk (below_step (by repeat (first | (with_reducible first | exact HB.out | apply below_alloc | apply pw_below_drewN | apply below_drew1) | exact HB.out)) hb)
                          clear HO_6
                          clear HB
                          have HO_6 := n0_
                          have HB := n1_
                          clear n0_ n1_
                          (try clear hb)
                          (try clear hb2)
                          (try clear hk)
                          (try clear hi)
                          refine hK.out _ _ (((HB.out.cell (World.block_lt_of_cell? w _ hw192_0)).trans hw192_0)) (fun hHeld => ?_)
                          clear hK K
                          refine norm_ (a' := ?_) ?_ ?_
                          rotate_left
                          · show Act.put _ (some 73) _ = _
                            simp only [Act.put, List.setIfInBounds_toArray, List.set_cons_zero, List.set_cons_succ, i64_w, i32_w]
                            rfl
                          refine pure_ (i := 8) (N := some 78) (v := ?_) (a' := ?_) #[true, true, true, true, true, true, true, true, true] rfl rfl (any_of HT_.out (by kernel_rfl)) (fun _ _ _ h => h) (Or.inl ⟨by rfl, ?_⟩) ?_ ?_
                          rotate_left
                          · intro w'
                            go_simp
                            with_reducible rfl
                          rotate_left
                          · simp only [Act.put, List.setIfInBounds_toArray, List.set_cons_zero, List.set_cons_succ, i64_w, i32_w]
                            rfl
                          refine done_ (done_of HT_.out (by kernel_rfl)) ?_
                          try go_wp2
                          go_ret
                          exact ⟨by first | rfl | (simp [errW_none, errW_some] <;> rfl) | (simp [*, errW_none, errW_some] <;> rfl), by repeat (first | (with_reducible first | exact HB.out | apply below_alloc | apply pw_below_drewN | apply below_drew1) | exact HB.out)⟩
                      · rw [if_neg c22] at H
                        exact absurd H (by simp)
                    · rw [if_neg c20] at H
                      have c20b0 : decide (x11_3 < (l0.length : Int)) = false := decide_eq_false c20
                      clear c20
                      replace H := Option.bind_eq_some_iff.mp H
                      obtain ⟨t193, A280, H⟩ := H
                      replace H : (some (t193 == 0)) = some r := H
                      have A28 := Aside0.mk A280
                      clear A280
                      obtain rfl := Option.some.inj H
                      go_wp2_with (first | ((with_reducible refine gate_callee (f := 18) rfl ?_); refine goesL_ (some 85) rfl rfl Try.func18 (by kernel_rfl) rfl #[.slice Ao14 t182.length co14, .int .i64 (wrap64 ((wrap64 (8 * (t182.length : Int))) + 1)), .int .i64 a1] rfl (by (try simp only [List.map_toArray, List.map_cons, List.map_nil]); first | done | rfl | (simp only [List.length_drop, List.length_take]; rfl)) ?_; (with_reducible refine (bits_At.calls _ _ t182 (wrap64 ((wrap64 (8 * (t182.length : Int))) + 1)) a1 t193 _ ?side1 ?side2 A28.out).mono ?_); (case side1 => repeat (first | exact (Kd.R_reads' HO_6.out).2.2 | (with_reducible refine Kd.C_alloc ?_ _) | (with_reducible refine Kd.C_drewN ?_ _) | (with_reducible refine Kd.C_drew ?_))); (case side2 => exact (Kd.R_reads' HO_6.out).2.1); rintro e w29 ⟨rfl, hb⟩; refine ⟨_, rfl, ?_⟩; have n0_ := Aside0.mk (Kd.R_below (by (with_reducible repeat (first | apply Kd.R_alloc | apply Kd.R_drewN | apply Kd.R_drew)); exact HO_6.out) hb); have n1_ := Aside0.mk (below_step (by repeat (first | (with_reducible first | exact HB.out | apply below_alloc | apply pw_below_drewN | apply below_drew1) | exact HB.out)) hb); clear HO_6; clear HB; have HO_6 := n0_; have HB := n1_; clear n0_ n1_; (try clear hb); (try clear hb2); (try clear hk); (try clear hi)))
                      go_ret
                      exact ⟨by first | rfl | (simp [errW_none, errW_some] <;> rfl) | (simp [*, errW_none, errW_some] <;> rfl), by repeat (first | (with_reducible first | exact HB.out | apply below_alloc | apply pw_below_drewN | apply below_drew1) | exact HB.out)⟩
        · rw [if_neg c9] at H
          have c9b0 : (t183 == 0) = false := beq_eq_false_iff_ne.mpr c9
          have c9b1 : (t183 != 0) = true := bne_iff_ne.mpr c9
          by_cases c30 : t183 = 1
          · rw [if_pos c30] at H
            have c30b0 : (t183 == 1) = true := beq_iff_eq.mpr c30
            have c30b1 : (t183 != 1) = false := bne_eq_false_iff_eq.mpr c30
            clear c30
            obtain rfl := Option.some.inj H
            go_wp2_with (first | ((with_reducible refine gate_callee (f := 10) rfl ?_); refine goesL_ (some 24) rfl rfl Try.func10 (by kernel_rfl) rfl #[.slice A0 l0.length c0, .int .i64 a1] rfl (by (try simp only [List.map_toArray, List.map_cons, List.map_nil]); first | done | rfl | (simp only [List.length_drop, List.length_take]; rfl)) ?_; (with_reducible refine (bits_Pack.calls _ _ l0 a1 t182 t183 _ ?side1 ?side2 A8.out).mono ?_); (case side1 => repeat (first | exact (Kd.C_below HR0.out HB.out) | (with_reducible refine Kd.C_alloc ?_ _) | (with_reducible refine Kd.C_drewN ?_ _) | (with_reducible refine Kd.C_drew ?_))); (case side2 => exact HC0.out); rintro e w31 ⟨v184, rfl, ho0, hb⟩; refine ⟨_, rfl, ?_⟩; have n0_ := Aside0.mk (Kd.R_lower ho0 (below_size (by repeat (first | (with_reducible first | exact HB.out | apply below_alloc | apply pw_below_drewN | apply below_drew1) | exact HB.out)))); have n1_ := Aside0.mk (below_step (by repeat (first | (with_reducible first | exact HB.out | apply below_alloc | apply pw_below_drewN | apply below_drew1) | exact HB.out)) hb); clear HB; have HO185 := n0_; have HB := n1_; clear n0_ n1_; (try clear hb); (try clear hb2); (try clear hk); (try clear hi); (try clear ho0); obtain ⟨Ao32, co32, eo32⟩ := Kd.R_slice HO185.out; subst eo32))
            go_ret
            exact ⟨by first | rfl | (simp [errW_none, errW_some] <;> rfl) | (simp [*, errW_none, errW_some] <;> rfl), by repeat (first | (with_reducible first | exact HB.out | apply below_alloc | apply pw_below_drewN | apply below_drew1) | exact HB.out)⟩
          · rw [if_neg c30] at H
            have c30b0 : (t183 == 1) = false := beq_eq_false_iff_ne.mpr c30
            have c30b1 : (t183 != 1) = true := bne_iff_ne.mpr c30
            obtain rfl := Option.some.inj H
            go_wp2_with (first | ((with_reducible refine gate_callee (f := 10) rfl ?_); refine goesL_ (some 24) rfl rfl Try.func10 (by kernel_rfl) rfl #[.slice A0 l0.length c0, .int .i64 a1] rfl (by (try simp only [List.map_toArray, List.map_cons, List.map_nil]); first | done | rfl | (simp only [List.length_drop, List.length_take]; rfl)) ?_; (with_reducible refine (bits_Pack.calls _ _ l0 a1 t182 t183 _ ?side1 ?side2 A8.out).mono ?_); (case side1 => repeat (first | exact (Kd.C_below HR0.out HB.out) | (with_reducible refine Kd.C_alloc ?_ _) | (with_reducible refine Kd.C_drewN ?_ _) | (with_reducible refine Kd.C_drew ?_))); (case side2 => exact HC0.out); rintro e w33 ⟨v184, rfl, ho0, hb⟩; refine ⟨_, rfl, ?_⟩; have n0_ := Aside0.mk (Kd.R_lower ho0 (below_size (by repeat (first | (with_reducible first | exact HB.out | apply below_alloc | apply pw_below_drewN | apply below_drew1) | exact HB.out)))); have n1_ := Aside0.mk (below_step (by repeat (first | (with_reducible first | exact HB.out | apply below_alloc | apply pw_below_drewN | apply below_drew1) | exact HB.out)) hb); clear HB; have HO185 := n0_; have HB := n1_; clear n0_ n1_; (try clear hb); (try clear hb2); (try clear hk); (try clear hi); (try clear ho0)))
            go_ret
            exact ⟨by first | rfl | (simp [errW_none, errW_some] <;> rfl) | (simp [*, errW_none, errW_some] <;> rfl), by repeat (first | (with_reducible first | exact HB.out | apply below_alloc | apply pw_below_drewN | apply below_drew1) | exact HB.out)⟩

/-- THE ONE PURE STATEMENT of winnowerlaw02_BitsBack: yours. -/
def winnowerlaw02_BitsBack.Pure : Prop := ∀ (l0 : List Int) (a1 : Int), l0.length ≤ maxLen → l0.length * 8 ≤ 140737488351232 → (∀ x ∈ l0, (Lit.int .i64 x).wf = true) → (Lit.int .i64 a1).wf = true → ∃ k, winnowerlaw02_BitsBack.f k l0 a1 = some true
theorem winnowerlaw02_BitsBack.walk (P : winnowerlaw02_BitsBack.Pure) (a0 : Option Addr) (len0 cap0 : Nat) (z0 : List Int) (a1 : Int) (w : World) (w0 : (a0 = none ∧ len0 = 0 ∧ cap0 = 0 ∧ z0 = []) ∨ ∃ x, a0 = some x ∧ len0 ≤ cap0 ∧ cap0 ≤ maxLen ∧ z0.length = cap0 ∧ (∀ i, i < z0.length → w.cell? (x.add i) = some (.int .i64 (z0.getD i 0))) ∧ ∀ n ∈ z0, (Lit.int .i64 n).wf = true) (y0 : len0 * 8 ≤ 140737488351232) (w1 : (Lit.int .i64 a1).wf = true) :
    Calls Try.prog 5 #[.slice a0 len0 cap0, .int .i64 a1] w fun e w' => e = .returned (.bool true) ∧ Below w.heap.size w w' := by
  obtain ⟨l0, rfl, hr0, hm0, hw0, hc0⟩ := ReadsInt.ofRowC w0
  obtain ⟨k, h⟩ := P l0 a1 hm0 y0 hw0 w1
  refine (winnowerlaw02_BitsBack.calls k _ _ l0 a1 true w (Kd.C_of_reads (d := (0 : Int)) (h1 := fun _ => rfl) hr0) hc0 h).mono ?_
  rintro e w' ⟨rfl, hd⟩
  exact ⟨rfl, hd⟩

end Go.Proofs.Ythcbcddnillipaa.S
