/- The machine side of laws, written by wip/tools/myprint.py (the printer's way, with functions proved by hand put in); Lean checks it. -/
import Derived.Test.YtnlfhjhdnompaaaQx0
import Derived.Test.YtnlfhjhdnompaaaQx1
import Derived.Test.YtnlfhjhdnompaaaQx9
import Derived.Test.YtnlfhjhdnompaaaQx16
import Derived.Test.YtnlfhjhdnompaaaQx21
import Derived.Test.YtnlfhjhdnompaaaQx23
import Derived.Test.YtnlfhjhdnompaaaQx25
namespace Go.Proofs.Ytnlfhjhdnompaaa.Q
open Go.RowKit Go.Proofs.YtnlfhjhdnompaaaW.PrintWords Go.Proofs.YtnlfhjhdnompaaaW.PrintLast Go.Proofs.YtnlfhjhdnompaaaW.PrintMore
attribute [local go_sem] max2_int min2_int max_two min_two max_three min_three max_four min_four   -- for this text's walks alone
set_option linter.unusedVariables false
set_option linter.unusedSimpArgs false

attribute [local go_sem high] eqA35
/-! ### winnowerref01_GetLen: function 15 -/
def winnowerref01_GetLen.f (l0 : List Int) : Option (Int × Int × Int) := (winnowerref01_run.f l0).bind fun bt320 => (if bt320.2 = 0 then (if 0 ≤ bt320.1 then (if bt320.1 ≤ (l0.length : Int) then ((winnowerref01_halves.f (l0.take (bt320.1 : Int).toNat)).bind fun bt323 => (if bt323.1 > 4611686018427387903 then (some (0, 0, 7)) else (some (wrap64 ((wrap64 (2 * bt323.1)) + bt323.2), bt320.1, 0)))) else (none)) else (none)) else (some (0, 0, bt320.2)))
set_option maxHeartbeats 8000000 in
set_option maxRecDepth 100000 in
theorem winnowerref01_GetLen.calls (A0 : Option Addr) (c0 : Nat) (l0 : List Int) (r1 : Int) (r2 : Int) (r3 : Int) (w : World) (hr0 : Kd.C (Kd.int .u8) w A0 l0.length l0) (hc0 : l0.length ≤ c0) (h : winnowerref01_GetLen.f l0 = some (r1, r2, r3)) :
    Calls Try.prog 15 #[.slice A0 l0.length c0] w fun e w' => e = .returned (.tuple #[.int .i64 r1, .int .i64 r2, .int .i64 r3]) ∧ Drawn0 w w' := by
  have HR0 := Aside0.mk hr0
  have HC0 := Aside0.mk hc0
  clear hr0 hc0
  have H : ((winnowerref01_run.f l0).bind fun bt320 => (if bt320.2 = 0 then (if 0 ≤ bt320.1 then (if bt320.1 ≤ (l0.length : Int) then ((winnowerref01_halves.f (l0.take (bt320.1 : Int).toNat)).bind fun bt323 => (if bt323.1 > 4611686018427387903 then (some (0, 0, 7)) else (some (wrap64 ((wrap64 (2 * bt323.1)) + bt323.2), bt320.1, 0)))) else (none)) else (none)) else (some (0, 0, bt320.2)))) = some (r1, r2, r3) := h
  clear h
  replace H := Option.bind_eq_some_iff.mp H
  obtain ⟨⟨t320, t321⟩, A20, H⟩ := H
  replace H : (if t321 = 0 then (if 0 ≤ t320 then (if t320 ≤ (l0.length : Int) then ((winnowerref01_halves.f (l0.take (t320 : Int).toNat)).bind fun bt323 => (if bt323.1 > 4611686018427387903 then (some (0, 0, 7)) else (some (wrap64 ((wrap64 (2 * bt323.1)) + bt323.2), t320, 0)))) else (none)) else (none)) else (some (0, 0, t321))) = some (r1, r2, r3) := H
  have A2 := Aside0.mk A20
  clear A20
  by_cases c3 : t321 = 0
  · rw [if_pos c3] at H
    have c3b0 : (t321 == 0) = true := beq_iff_eq.mpr c3
    have c3b1 : (t321 != 0) = false := bne_eq_false_iff_eq.mpr c3
    clear c3
    by_cases c4 : 0 ≤ t320
    · rw [if_pos c4] at H
      have c4b0 := eq_true c4
      have c4b1 : decide (0 ≤ t320) = true := decide_eq_true c4
      clear c4
      by_cases c5 : t320 ≤ (l0.length : Int)
      · rw [if_pos c5] at H
        have c5b0 := eq_true c5
        have c5b1 : decide (t320 ≤ (l0.length : Int)) = true := decide_eq_true c5
        clear c5
        replace H := Option.bind_eq_some_iff.mp H
        obtain ⟨⟨t323, t324⟩, A60, H⟩ := H
        replace H : (if t323 > 4611686018427387903 then (some (0, 0, 7)) else (some (wrap64 ((wrap64 (2 * t323)) + t324), t320, 0))) = some (r1, r2, r3) := H
        have A6 := Aside0.mk A60
        clear A60
        by_cases c7 : t323 > 4611686018427387903
        · rw [if_pos c7] at H
          have c7b0 : decide (4611686018427387903 < t323) = true := decide_eq_true c7
          clear c7
          simp only [Option.some.injEq, Prod.mk.injEq] at H
          obtain ⟨rfl, rfl, rfl⟩ := H
          go_enter Try.func15, Try.ntmps15
          go_wp2_with (first | ((with_reducible refine gate_callee (f := 33) rfl ?_); refine goesL_ (some 11) rfl rfl Try.func33 (by kernel_rfl) rfl #[.slice A0 l0.length c0] rfl (by (try simp only [List.map_toArray, List.map_cons, List.map_nil]); first | done | rfl | (simp only [List.length_drop, List.length_take]; rfl)) ?_; (with_reducible refine (winnowerref01_run.calls _ _ l0 t320 t321 _ ?side1 ?side2 A2.out).mono ?_); (case side1 => repeat (first | exact HR0.out | (with_reducible refine Kd.C_alloc ?_ _) | (with_reducible refine Kd.C_drewN ?_ _) | (with_reducible refine Kd.C_drew ?_))); (case side2 => exact HC0.out); rintro e w' ⟨rfl, ⟨nd, rfl⟩⟩; refine ⟨_, rfl, ?_⟩; obtain ⟨i08, hi08, _, hsz8, _⟩ := info_parts info5; obtain ⟨hcut8, hA8, hC8⟩ := print_take_of (P := Try.prog) (Value.int .u8) 0 24 5 .i64 Try.underlying24 hi08 hsz8 A0 c0 l0 t320 (of_decide_eq_true (by first | (with_reducible assumption) | assumption)) (of_decide_eq_true (by first | (with_reducible assumption) | assumption)) HC0.out; have HR322 := Aside0.mk (Kd.C_of_reads (h1 := fun _ => rfl) (hA8 _ (Kd.reads_of_C HR0.out))); have HC322 := Aside0.mk hC8; clear hA8 hC8 hi08 hsz8) | ((with_reducible refine gate_callee (f := 34) rfl ?_); refine goesL_ (some 21) rfl rfl Try.func34 (by kernel_rfl) rfl #[.slice A0 (l0.take (t320 : Int).toNat).length c0] rfl (by (try simp only [List.map_toArray, List.map_cons, List.map_nil]); first | done | (rw [show (l0.take (t320 : Int).toNat).length = t320.toNat from (by rw [List.length_take]; have h_ : (t320 : Int) ≤ (l0.length : Int) := of_decide_eq_true (by first | (with_reducible assumption) | assumption); omega)] <;> rfl) | rfl | (simp only [List.length_drop, List.length_take]; rfl)) ?_; (with_reducible refine (winnowerref01_halves.calls _ _ (l0.take (t320 : Int).toNat) t323 t324 _ ?side1 ?side2 A6.out).mono ?_); (case side1 => repeat (first | exact HR322.out | (with_reducible refine Kd.C_alloc ?_ _) | (with_reducible refine Kd.C_drewN ?_ _) | (with_reducible refine Kd.C_drew ?_))); (case side2 => exact HC322.out); rintro e w' ⟨rfl, ⟨nd, rfl⟩⟩; refine ⟨_, rfl, ?_⟩))
          go_ret3
          exact ⟨by first | rfl | (simp; done) | (simp [*]; done), by repeat (first | exact Drawn0.refl _ | apply Drawn0.step)⟩
        · rw [if_neg c7] at H
          have c7b0 : decide (4611686018427387903 < t323) = false := decide_eq_false c7
          clear c7
          simp only [Option.some.injEq, Prod.mk.injEq] at H
          obtain ⟨rfl, rfl, rfl⟩ := H
          go_enter Try.func15, Try.ntmps15
          go_wp2_with (first | ((with_reducible refine gate_callee (f := 33) rfl ?_); refine goesL_ (some 11) rfl rfl Try.func33 (by kernel_rfl) rfl #[.slice A0 l0.length c0] rfl (by (try simp only [List.map_toArray, List.map_cons, List.map_nil]); first | done | rfl | (simp only [List.length_drop, List.length_take]; rfl)) ?_; (with_reducible refine (winnowerref01_run.calls _ _ l0 t320 t321 _ ?side1 ?side2 A2.out).mono ?_); (case side1 => repeat (first | exact HR0.out | (with_reducible refine Kd.C_alloc ?_ _) | (with_reducible refine Kd.C_drewN ?_ _) | (with_reducible refine Kd.C_drew ?_))); (case side2 => exact HC0.out); rintro e w' ⟨rfl, ⟨nd, rfl⟩⟩; refine ⟨_, rfl, ?_⟩; obtain ⟨i09, hi09, _, hsz9, _⟩ := info_parts info5; obtain ⟨hcut9, hA9, hC9⟩ := print_take_of (P := Try.prog) (Value.int .u8) 0 24 5 .i64 Try.underlying24 hi09 hsz9 A0 c0 l0 t320 (of_decide_eq_true (by first | (with_reducible assumption) | assumption)) (of_decide_eq_true (by first | (with_reducible assumption) | assumption)) HC0.out; have HR322 := Aside0.mk (Kd.C_of_reads (h1 := fun _ => rfl) (hA9 _ (Kd.reads_of_C HR0.out))); have HC322 := Aside0.mk hC9; clear hA9 hC9 hi09 hsz9) | ((with_reducible refine gate_callee (f := 34) rfl ?_); refine goesL_ (some 21) rfl rfl Try.func34 (by kernel_rfl) rfl #[.slice A0 (l0.take (t320 : Int).toNat).length c0] rfl (by (try simp only [List.map_toArray, List.map_cons, List.map_nil]); first | done | (rw [show (l0.take (t320 : Int).toNat).length = t320.toNat from (by rw [List.length_take]; have h_ : (t320 : Int) ≤ (l0.length : Int) := of_decide_eq_true (by first | (with_reducible assumption) | assumption); omega)] <;> rfl) | rfl | (simp only [List.length_drop, List.length_take]; rfl)) ?_; (with_reducible refine (winnowerref01_halves.calls _ _ (l0.take (t320 : Int).toNat) t323 t324 _ ?side1 ?side2 A6.out).mono ?_); (case side1 => repeat (first | exact HR322.out | (with_reducible refine Kd.C_alloc ?_ _) | (with_reducible refine Kd.C_drewN ?_ _) | (with_reducible refine Kd.C_drew ?_))); (case side2 => exact HC322.out); rintro e w' ⟨rfl, ⟨nd, rfl⟩⟩; refine ⟨_, rfl, ?_⟩))
          go_ret3
          exact ⟨by first | rfl | (simp; done) | (simp [*]; done), by repeat (first | exact Drawn0.refl _ | apply Drawn0.step)⟩
      · rw [if_neg c5] at H
        exact absurd H (by simp)
    · rw [if_neg c4] at H
      exact absurd H (by simp)
  · rw [if_neg c3] at H
    have c3b0 : (t321 == 0) = false := beq_eq_false_iff_ne.mpr c3
    have c3b1 : (t321 != 0) = true := bne_iff_ne.mpr c3
    simp only [Option.some.injEq, Prod.mk.injEq] at H
    obtain ⟨rfl, rfl, rfl⟩ := H
    go_enter Try.func15, Try.ntmps15
    go_wp2_with (first | ((with_reducible refine gate_callee (f := 33) rfl ?_); refine goesL_ (some 11) rfl rfl Try.func33 (by kernel_rfl) rfl #[.slice A0 l0.length c0] rfl (by (try simp only [List.map_toArray, List.map_cons, List.map_nil]); first | done | rfl | (simp only [List.length_drop, List.length_take]; rfl)) ?_; (with_reducible refine (winnowerref01_run.calls _ _ l0 t320 t321 _ ?side1 ?side2 A2.out).mono ?_); (case side1 => repeat (first | exact HR0.out | (with_reducible refine Kd.C_alloc ?_ _) | (with_reducible refine Kd.C_drewN ?_ _) | (with_reducible refine Kd.C_drew ?_))); (case side2 => exact HC0.out); rintro e w' ⟨rfl, ⟨nd, rfl⟩⟩; refine ⟨_, rfl, ?_⟩))
    go_ret3
    exact ⟨by first | rfl | (simp; done) | (simp [*]; done), by repeat (first | exact Drawn0.refl _ | apply Drawn0.step)⟩

/-! ### winnowerlaw03_RunsFew: function 5 -/
mutual
def winnowerlaw03_RunsFew.j0 : Nat → List Int → Bool → Bool → Option (Bool)
  | 0, _, _, _ => none
  | k + 1, x0, x3, x19 => if x19 = true then (some x3) else ((runs_Runs.f x0).bind fun t326 => (winnowerlaw03_RunsFew.l0 k x0 t326 0 0))
def winnowerlaw03_RunsFew.l0 : Nat → List Int → List (S35) → Int → Int → Option (Bool)
  | 0, _, _, _, _ => none
  | k + 1, x0, x4, x5, x6 => if x6 < (x4.length : Int) then (if 0 ≤ x6 then (if ((rd_T35 x4 x6).f1) < 1 then (some false) else (if x6 > 0 then (if 0 ≤ (wrap64 (x6 - 1)) then (if (wrap64 (x6 - 1)) < (x4.length : Int) then (if ((rd_T35 x4 x6).f0) = ((rd_T35 x4 (wrap64 (x6 - 1))).f0) then (some false) else (winnowerlaw03_RunsFew.l0 k x0 x4 (wrap64 (x5 + ((rd_T35 x4 x6).f1))) (wrap64 (x6 + 1)))) else (none)) else (none)) else (winnowerlaw03_RunsFew.l0 k x0 x4 (wrap64 (x5 + ((rd_T35 x4 x6).f1))) (wrap64 (x6 + 1))))) else (none)) else ((runs_Encode.f x0).bind fun bt334 => (if bt334.2 = 0 then (if (bt334.1.length : Int) < 2 then (some false) else (if 0 < (bt334.1.length : Int) then (if (rd bt334.1 0) > 2 then (some false) else (if x5 = (x0.length : Int) then (if 1 ≤ (bt334.1.length : Int) then ((winnowerref01_GetLen.f (bt334.1.drop 1)).bind fun bt344 => (if bt344.2.2 = 0 then (some (bt344.1 == (x0.length : Int))) else (some false))) else (none)) else (some false))) else (none))) else (some false)))
end
def winnowerlaw03_RunsFew.f (k : Nat) (l0 : List Int) : Option (Bool) := (winnowerlaw03_awake.f k).bind fun t325 => (if t325 = true then (winnowerlaw03_RunsFew.j0 k l0 t325 (decide ((l0.length : Int) > 600))) else (winnowerlaw03_RunsFew.j0 k l0 t325 true))
theorem winnowerlaw03_RunsFew.mono_l : ∀ k, (∀ y0 y1 y2, LeO (winnowerlaw03_RunsFew.j0 k y0 y1 y2) (winnowerlaw03_RunsFew.j0 (k + 1) y0 y1 y2)) ∧ (∀ y0 y1 y2 y3, LeO (winnowerlaw03_RunsFew.l0 k y0 y1 y2 y3) (winnowerlaw03_RunsFew.l0 (k + 1) y0 y1 y2 y3))
  | 0 => ⟨fun _ _ _ r h => by simp [winnowerlaw03_RunsFew.j0] at h, fun _ _ _ _ r h => by simp [winnowerlaw03_RunsFew.l0] at h⟩
  | k + 1 => by
    obtain ⟨ih0, ih1⟩ := winnowerlaw03_RunsFew.mono_l k
    refine ⟨?_, ?_⟩
    · intro y0 y1 y2
      unfold winnowerlaw03_RunsFew.j0
      repeat' first
      | (with_reducible exact ih0 _ _ _)
      | (with_reducible exact ih1 _ _ _ _)
      | (with_reducible exact winnowerlaw03_awake.mono _)
      | (with_reducible exact LeO.refl _)
      | (with_reducible exact LeO.none _)
      | (with_reducible refine LeO.ite ?_ ?_)
      | (with_reducible refine LeO.bind ?_ (fun _ => ?_))
      | exact ih0 _ _ _
      | exact ih1 _ _ _ _
      | exact winnowerlaw03_awake.mono _
      | exact LeO.none _
      | refine LeO.ite ?_ ?_
      | refine LeO.bind ?_ (fun _ => ?_)
    · intro y0 y1 y2 y3
      unfold winnowerlaw03_RunsFew.l0
      repeat' first
      | (with_reducible exact ih0 _ _ _)
      | (with_reducible exact ih1 _ _ _ _)
      | (with_reducible exact winnowerlaw03_awake.mono _)
      | (with_reducible exact LeO.refl _)
      | (with_reducible exact LeO.none _)
      | (with_reducible refine LeO.ite ?_ ?_)
      | (with_reducible refine LeO.bind ?_ (fun _ => ?_))
      | exact ih0 _ _ _
      | exact ih1 _ _ _ _
      | exact winnowerlaw03_awake.mono _
      | exact LeO.none _
      | refine LeO.ite ?_ ?_
      | refine LeO.bind ?_ (fun _ => ?_)
theorem winnowerlaw03_RunsFew.mono : ∀ a0 k, LeO (winnowerlaw03_RunsFew.f k a0) (winnowerlaw03_RunsFew.f (k + 1) a0) := by
  intro a0 k
  obtain ⟨ih0, ih1⟩ := winnowerlaw03_RunsFew.mono_l k
  unfold winnowerlaw03_RunsFew.f
  repeat' first
      | (with_reducible exact ih0 _ _ _)
      | (with_reducible exact ih1 _ _ _ _)
      | (with_reducible exact winnowerlaw03_awake.mono _)
      | (with_reducible exact LeO.refl _)
      | (with_reducible exact LeO.none _)
      | (with_reducible refine LeO.ite ?_ ?_)
      | (with_reducible refine LeO.bind ?_ (fun _ => ?_))
      | exact ih0 _ _ _
      | exact ih1 _ _ _ _
      | exact winnowerlaw03_awake.mono _
      | exact LeO.none _
      | refine LeO.ite ?_ ?_
      | refine LeO.bind ?_ (fun _ => ?_)
set_option maxHeartbeats 8000000 in
set_option maxRecDepth 100000 in
theorem winnowerlaw03_RunsFew.calls (k : Nat) (A0 : Option Addr) (c0 : Nat) (l0 : List Int) (r : Bool) (w : World) (hr0 : Kd.C (Kd.int .i64) w A0 l0.length l0) (hc0 : l0.length ≤ c0) (h : winnowerlaw03_RunsFew.f k l0 = some r) :
    Calls Try.prog 5 #[.slice A0 l0.length c0] w fun e w' => e = .returned (.bool r) ∧ Below w.heap.size w w' := by
  have HR0 := Aside0.mk hr0
  have HC0 := Aside0.mk hc0
  clear hr0 hc0
  have HB := Aside0.mk (Below.refl w.heap.size w)
  have H : ((winnowerlaw03_awake.f k).bind fun t325 => (if t325 = true then (winnowerlaw03_RunsFew.j0 k l0 t325 (decide ((l0.length : Int) > 600))) else (winnowerlaw03_RunsFew.j0 k l0 t325 true))) = some r := h
  clear h
  replace H := Option.bind_eq_some_iff.mp H
  obtain ⟨t325, A20, H⟩ := H
  replace H : (if t325 = true then (winnowerlaw03_RunsFew.j0 k l0 t325 (decide ((l0.length : Int) > 600))) else (winnowerlaw03_RunsFew.j0 k l0 t325 true)) = some r := H
  have A2 := Aside0.mk A20
  clear A20
  have HC3 := Aside0.mk H
  clear H
  go_enter Try.func5, Try.ntmps5
  go_upto_region 2 with (first | (go_at_call 9; (with_reducible refine (winnowerlaw03_awake.calls k  t325 _ A2.out).mono ?_); rintro e w4 ⟨rfl, hb⟩; have n0_ := Aside0.mk (below_step (by repeat (first | (with_reducible first | exact HB.out | apply below_alloc | apply pw_below_drewN | apply below_drew1) | exact HB.out)) hb); clear HB; have HB := n0_; clear n0_; (try clear hb); (try clear hb2); (try clear hk); (try clear hi)))
  repeat (go_quiet (first | (go_at_call 9; (with_reducible refine (winnowerlaw03_awake.calls k  t325 _ A2.out).mono ?_); rintro e w4 ⟨rfl, hb⟩; have n0_ := Aside0.mk (below_step (by repeat (first | (with_reducible first | exact HB.out | apply below_alloc | apply pw_below_drewN | apply below_drew1) | exact HB.out)) hb); clear HB; have HB := n0_; clear n0_; (try clear hb); (try clear hb2); (try clear hk); (try clear hi))); go_upto_region 2 with (first | (go_at_call 9; (with_reducible refine (winnowerlaw03_awake.calls k  t325 _ A2.out).mono ?_); rintro e w4 ⟨rfl, hb⟩; have n0_ := Aside0.mk (below_step (by repeat (first | (with_reducible first | exact HB.out | apply below_alloc | apply pw_below_drewN | apply below_drew1) | exact HB.out)) hb); clear HB; have HB := n0_; clear n0_; (try clear hb); (try clear hb2); (try clear hk); (try clear hi))))
  (try simp only [Act.put, List.setIfInBounds_toArray, List.set_cons_zero, List.set_cons_succ])
  go_cut [19] (fun v19 wc => ∃ (kq : Nat) (x19_2 : Bool), v19 = .bool x19_2 ∧ Aside0 (winnowerlaw03_RunsFew.j0 kq l0 t325 x19_2 = some r) ∧ Aside0 (kq ≤ k) ∧ Aside0 (Below w.heap.size w wc))
  case first =>
    have H := HC3.out
    clear HC3
    by_cases c5 : t325 = true
    · subst c5
      have H1 : (winnowerlaw03_RunsFew.j0 k l0 true (decide ((l0.length : Int) > 600))) = some r := by rw [if_pos rfl] at H; exact H
      clear H
      have H := H1
      clear H1
      have H' := Aside0.mk H
      clear H
      go_wp2
      repeat (go_quiet (fail); try go_wp2)
      go_meet
      case rel => exact ⟨_, (decide ((l0.length : Int) > 600)), (by first | rfl | (simp; done) | (simp [*]; done)), H', ⟨by first | omega | exact Nat.le_refl _⟩, ⟨by repeat (first | (with_reducible first | exact HB.out | apply below_alloc | apply pw_below_drewN | apply below_drew1) | exact HB.out)⟩⟩
    · replace c5 := Bool.eq_false_iff.mpr c5
      subst c5
      have H1 : (winnowerlaw03_RunsFew.j0 k l0 false true) = some r := by rw [if_neg (show ¬ (false = true) by decide)] at H; exact H
      clear H
      have H := H1
      clear H1
      have H' := Aside0.mk H
      clear H
      go_wp2
      repeat (go_quiet (fail); try go_wp2)
      go_meet
      case rel => exact ⟨_, (true), (by first | rfl | (simp; done) | (simp [*]; done)), H', ⟨by first | omega | exact Nat.le_refl _⟩, ⟨by repeat (first | (with_reducible first | exact HB.out | apply below_alloc | apply pw_below_drewN | apply below_drew1) | exact HB.out)⟩⟩
  case rest =>
    clear HC3
    try clear p2
    try clear c5
    obtain ⟨kq, x19_2, rfl, HA, HJ2, HB⟩ := hcut
    cases kq with
    | zero => exact absurd HA.out (by simp [winnowerlaw03_RunsFew.j0])
    | succ kj2 =>
      have H := HA.out
      clear HA
      simp only [winnowerlaw03_RunsFew.j0] at H
      by_cases c6 : x19_2 = true
      · subst c6
        have H1 : (some t325) = some r := by rw [if_pos rfl] at H; exact H
        clear H
        have H := H1
        clear H1
        obtain rfl := Option.some.inj H
        go_wp2
        repeat (go_quiet (fail); try go_wp2)
        go_ret
        exact ⟨by first | rfl | (simp [errW_none, errW_some] <;> rfl) | (refine congrArg (fun b_ : Bool => Ending.returned (Value.bool b_)) ?_; simp; done) | (simp [*, errW_none, errW_some] <;> rfl), by repeat (first | (with_reducible first | exact HB.out | apply below_alloc | apply pw_below_drewN | apply below_drew1) | exact HB.out)⟩
      · replace c6 := Bool.eq_false_iff.mpr c6
        subst c6
        have H1 : ((runs_Runs.f l0).bind fun t326 => (winnowerlaw03_RunsFew.l0 kj2 l0 t326 0 0)) = some r := by rw [if_neg (show ¬ (false = true) by decide)] at H; exact H
        clear H
        have H := H1
        clear H1
        replace H := Option.bind_eq_some_iff.mp H
        obtain ⟨t326, A70, H⟩ := H
        replace H : (winnowerlaw03_RunsFew.l0 kj2 l0 t326 0 0) = some r := H
        have A7 := Aside0.mk A70
        clear A70
        have H' := Aside0.mk H
        clear H
        go_wp2_with (first | (go_at_call 14; (with_reducible refine (runs_Runs.calls _ _ l0 t326 _ ?side1 ?side2 A7.out).mono ?_); (case side1 => repeat (first | exact (Kd.C_below HR0.out HB.out) | (with_reducible refine Kd.C_alloc ?_ _) | (with_reducible refine Kd.C_drewN ?_ _) | (with_reducible refine Kd.C_drew ?_))); (case side2 => exact HC0.out); rintro e w8 ⟨v327, rfl, ho0, hb⟩; have n0_ := Aside0.mk (Kd.R_lower ho0 (below_size (by repeat (first | (with_reducible first | exact HB.out | apply below_alloc | apply pw_below_drewN | apply below_drew1) | exact HB.out)))); have n1_ := Aside0.mk (below_step (by repeat (first | (with_reducible first | exact HB.out | apply below_alloc | apply pw_below_drewN | apply below_drew1) | exact HB.out)) hb); clear HB; have HO328 := n0_; have HB := n1_; clear n0_ n1_; (try clear hb); (try clear hb2); (try clear hk); (try clear hi); (try clear ho0)))
        repeat (go_quiet (first | (go_at_call 14; (with_reducible refine (runs_Runs.calls _ _ l0 t326 _ ?side1 ?side2 A7.out).mono ?_); (case side1 => repeat (first | exact (Kd.C_below HR0.out HB.out) | (with_reducible refine Kd.C_alloc ?_ _) | (with_reducible refine Kd.C_drewN ?_ _) | (with_reducible refine Kd.C_drew ?_))); (case side2 => exact HC0.out); rintro e w8 ⟨v327, rfl, ho0, hb⟩; have n0_ := Aside0.mk (Kd.R_lower ho0 (below_size (by repeat (first | (with_reducible first | exact HB.out | apply below_alloc | apply pw_below_drewN | apply below_drew1) | exact HB.out)))); have n1_ := Aside0.mk (below_step (by repeat (first | (with_reducible first | exact HB.out | apply below_alloc | apply pw_below_drewN | apply below_drew1) | exact HB.out)) hb); clear HB; have HO328 := n0_; have HB := n1_; clear n0_ n1_; (try clear hb); (try clear hb2); (try clear hk); (try clear hi); (try clear ho0))); try go_wp2_with (first | (go_at_call 14; (with_reducible refine (runs_Runs.calls _ _ l0 t326 _ ?side1 ?side2 A7.out).mono ?_); (case side1 => repeat (first | exact (Kd.C_below HR0.out HB.out) | (with_reducible refine Kd.C_alloc ?_ _) | (with_reducible refine Kd.C_drewN ?_ _) | (with_reducible refine Kd.C_drew ?_))); (case side2 => exact HC0.out); rintro e w8 ⟨v327, rfl, ho0, hb⟩; have n0_ := Aside0.mk (Kd.R_lower ho0 (below_size (by repeat (first | (with_reducible first | exact HB.out | apply below_alloc | apply pw_below_drewN | apply below_drew1) | exact HB.out)))); have n1_ := Aside0.mk (below_step (by repeat (first | (with_reducible first | exact HB.out | apply below_alloc | apply pw_below_drewN | apply below_drew1) | exact HB.out)) hb); clear HB; have HO328 := n0_; have HB := n1_; clear n0_ n1_; (try clear hb); (try clear hb2); (try clear hk); (try clear hi); (try clear ho0))))
        go_loopg [5, 6] kj2 (fun kq v5 v6 w' => ∃ (x5_2 : Int) (x6_2 : Int), v5 = .int .i64 x5_2 ∧ v6 = .int .i64 x6_2 ∧ Aside0 (winnowerlaw03_RunsFew.l0 kq l0 t326 x5_2 x6_2 = some r) ∧ Aside0 (kq ≤ kj2) ∧ Aside0 (Kd.R k35 35 w' w.heap.size (fun _ => True) v327 t326) ∧ Aside0 (Below w.heap.size w w'))
        case atStart => exact ⟨(0), (0), (by first | rfl | (simp; done) | (simp [*]; done)), (by first | rfl | (simp; done) | (simp [*]; done)), H', ⟨Nat.le_refl _⟩, ⟨by (with_reducible repeat (first | apply Kd.R_alloc | apply Kd.R_drewN | apply Kd.R_drew)); exact HO328.out⟩, ⟨by repeat (first | (with_reducible first | exact HB.out | apply below_alloc | apply pw_below_drewN | apply below_drew1) | exact HB.out)⟩⟩
        case round =>
          clear H'
          try clear p2
          try clear c5
          try clear c6
          try clear p2
          obtain ⟨x5_2, x6_2, rfl, rfl, HA, HK2, HO_4, HB⟩ := hrel
          cases gk with
          | zero => exact absurd HA.out (by simp [winnowerlaw03_RunsFew.l0])
          | succ k2 =>
            have H := HA.out
            clear HA
            simp only [winnowerlaw03_RunsFew.l0] at H
            by_cases c9 : x6_2 < (t326.length : Int)
            · rw [if_pos c9] at H
              have c9b0 : decide (x6_2 < (t326.length : Int)) = true := decide_eq_true c9
              clear c9
              by_cases c10 : 0 ≤ x6_2
              · rw [if_pos c10] at H
                have c10b0 : decide (0 ≤ x6_2) = true := decide_eq_true c10
                clear c10
                by_cases c11 : ((rd_T35 t326 x6_2).f1) < 1
                · rw [if_pos c11] at H
                  have c11b0 : decide (((rd_T35 t326 x6_2).f1) < 1) = true := decide_eq_true c11
                  clear c11
                  obtain rfl := Option.some.inj H
                  obtain ⟨Ao12, co12, eo12⟩ := Kd.R_slice HO_4.out
                  subst eo12
                  have p329 : 0 ≤ (x6_2 : Int) := of_decide_eq_true (by first | (with_reducible assumption) | assumption)
                  have q329 : x6_2 < (t326.length : Int) := of_decide_eq_true (by first | (with_reducible assumption) | assumption)
                  obtain ⟨ad329, e329, hx329_0, hx329_1⟩ := at_T35 (Kd.R_reads' HO_4.out).2.2 x6_2 p329 q329
                  cases e329
                  replace p329 := eq_true p329
                  replace q329 := eq_true q329
                  go_wp2
                  repeat (go_quiet (fail); try go_wp2)
                  go_ret
                  exact ⟨by first | rfl | (simp [errW_none, errW_some] <;> rfl) | (refine congrArg (fun b_ : Bool => Ending.returned (Value.bool b_)) ?_; simp; done) | (simp [*, errW_none, errW_some] <;> rfl), by repeat (first | (with_reducible first | exact HB.out | apply below_alloc | apply pw_below_drewN | apply below_drew1) | exact HB.out)⟩
                · rw [if_neg c11] at H
                  have c11b0 : decide (((rd_T35 t326 x6_2).f1) < 1) = false := decide_eq_false c11
                  clear c11
                  by_cases c13 : x6_2 > 0
                  · rw [if_pos c13] at H
                    have c13b0 : decide (0 < x6_2) = true := decide_eq_true c13
                    clear c13
                    obtain ⟨ji14, hji14⟩ : ∃ j_ : Int, (wrap64 (x6_2 - 1)) = j_ := ⟨_, rfl⟩
                    replace H : (if 0 ≤ (ji14) then (if (ji14) < (t326.length : Int) then (if ((rd_T35 t326 x6_2).f0) = ((rd_T35 t326 (ji14)).f0) then (some false) else (winnowerlaw03_RunsFew.l0 k2 l0 t326 (wrap64 (x5_2 + ((rd_T35 t326 x6_2).f1))) (wrap64 (x6_2 + 1)))) else (none)) else (none)) = some r := by first | (rw [hji14] at H; exact H) | (simp only [hji14] at H ⊢; exact H)
                    have hji14w : (IntKind.i64.wrap (x6_2 - 1)) = ji14 := (i64_w _).trans hji14
                    by_cases c15 : 0 ≤ (ji14)
                    · rw [if_pos c15] at H
                      have c15b0 : decide (0 ≤ (ji14)) = true := decide_eq_true c15
                      clear c15
                      by_cases c16 : (ji14) < (t326.length : Int)
                      · rw [if_pos c16] at H
                        have c16b0 : decide ((ji14) < (t326.length : Int)) = true := decide_eq_true c16
                        clear c16
                        by_cases c17 : ((rd_T35 t326 x6_2).f0) = ((rd_T35 t326 (ji14)).f0)
                        · rw [if_pos c17] at H
                          have c17b0 : (((rd_T35 t326 x6_2).f0) == ((rd_T35 t326 (ji14)).f0)) = true := beq_iff_eq.mpr c17
                          have c17b1 : (((rd_T35 t326 x6_2).f0) != ((rd_T35 t326 (ji14)).f0)) = false := bne_eq_false_iff_eq.mpr c17
                          clear c17
                          obtain rfl := Option.some.inj H
                          obtain ⟨Ao18, co18, eo18⟩ := Kd.R_slice HO_4.out
                          subst eo18
                          have p329 : 0 ≤ (x6_2 : Int) := of_decide_eq_true (by first | (with_reducible assumption) | assumption)
                          have q329 : x6_2 < (t326.length : Int) := of_decide_eq_true (by first | (with_reducible assumption) | assumption)
                          obtain ⟨ad329, e329, hx329_0, hx329_1⟩ := at_T35 (Kd.R_reads' HO_4.out).2.2 x6_2 p329 q329
                          cases e329
                          replace p329 := eq_true p329
                          replace q329 := eq_true q329
                          have p330 : 0 ≤ (x6_2 : Int) := of_decide_eq_true (by first | (with_reducible assumption) | assumption)
                          have q330 : x6_2 < (t326.length : Int) := of_decide_eq_true (by first | (with_reducible assumption) | assumption)
                          obtain ⟨ad330, e330, hx330_0, hx330_1⟩ := at_T35 (Kd.R_reads' HO_4.out).2.2 x6_2 p330 q330
                          obtain rfl : ad329 = ad330 := (by injection e330)
                          replace p330 := eq_true p330
                          replace q330 := eq_true q330
                          have p331 : 0 ≤ ((ji14) : Int) := of_decide_eq_true (by first | (with_reducible assumption) | assumption)
                          have q331 : (ji14) < (t326.length : Int) := of_decide_eq_true (by first | (with_reducible assumption) | assumption)
                          obtain ⟨ad331, e331, hx331_0, hx331_1⟩ := at_T35 (Kd.R_reads' HO_4.out).2.2 (ji14) p331 q331
                          obtain rfl : ad329 = ad331 := (by injection e331)
                          replace p331 := eq_true p331
                          replace q331 := eq_true q331
                          go_wp2
                          repeat (go_quiet (fail); try go_wp2)
                          go_ret
                          exact ⟨by first | rfl | (simp [errW_none, errW_some] <;> rfl) | (simp only [← hji14]; first | rfl | (simp [errW_none, errW_some] <;> rfl)) | (refine congrArg (fun b_ : Bool => Ending.returned (Value.bool b_)) ?_; simp; done) | (simp [*, errW_none, errW_some] <;> rfl), by repeat (first | (with_reducible first | exact HB.out | apply below_alloc | apply pw_below_drewN | apply below_drew1) | exact HB.out)⟩
                        · rw [if_neg c17] at H
                          have c17b0 : (((rd_T35 t326 x6_2).f0) == ((rd_T35 t326 (ji14)).f0)) = false := beq_eq_false_iff_ne.mpr c17
                          have c17b1 : (((rd_T35 t326 x6_2).f0) != ((rd_T35 t326 (ji14)).f0)) = true := bne_iff_ne.mpr c17
                          have H' := Aside0.mk H
                          clear H
                          obtain ⟨Ao19, co19, eo19⟩ := Kd.R_slice HO_4.out
                          subst eo19
                          have p329 : 0 ≤ (x6_2 : Int) := of_decide_eq_true (by first | (with_reducible assumption) | assumption)
                          have q329 : x6_2 < (t326.length : Int) := of_decide_eq_true (by first | (with_reducible assumption) | assumption)
                          obtain ⟨ad329, e329, hx329_0, hx329_1⟩ := at_T35 (Kd.R_reads' HO_4.out).2.2 x6_2 p329 q329
                          cases e329
                          replace p329 := eq_true p329
                          replace q329 := eq_true q329
                          have p330 : 0 ≤ (x6_2 : Int) := of_decide_eq_true (by first | (with_reducible assumption) | assumption)
                          have q330 : x6_2 < (t326.length : Int) := of_decide_eq_true (by first | (with_reducible assumption) | assumption)
                          obtain ⟨ad330, e330, hx330_0, hx330_1⟩ := at_T35 (Kd.R_reads' HO_4.out).2.2 x6_2 p330 q330
                          obtain rfl : ad329 = ad330 := (by injection e330)
                          replace p330 := eq_true p330
                          replace q330 := eq_true q330
                          have p331 : 0 ≤ ((ji14) : Int) := of_decide_eq_true (by first | (with_reducible assumption) | assumption)
                          have q331 : (ji14) < (t326.length : Int) := of_decide_eq_true (by first | (with_reducible assumption) | assumption)
                          obtain ⟨ad331, e331, hx331_0, hx331_1⟩ := at_T35 (Kd.R_reads' HO_4.out).2.2 (ji14) p331 q331
                          obtain rfl : ad329 = ad331 := (by injection e331)
                          replace p331 := eq_true p331
                          replace q331 := eq_true q331
                          have p332 : 0 ≤ (x6_2 : Int) := of_decide_eq_true (by first | (with_reducible assumption) | assumption)
                          have q332 : x6_2 < (t326.length : Int) := of_decide_eq_true (by first | (with_reducible assumption) | assumption)
                          obtain ⟨ad332, e332, hx332_0, hx332_1⟩ := at_T35 (Kd.R_reads' HO_4.out).2.2 x6_2 p332 q332
                          obtain rfl : ad329 = ad332 := (by injection e332)
                          replace p332 := eq_true p332
                          replace q332 := eq_true q332
                          go_wp2
                          repeat (go_quiet (fail); try go_wp2)
                          go_roundg k2
                          case measure => have := HJ2.out; have := HK2.out; omega
                          case rel => exact ⟨(wrap64 (x5_2 + ((rd_T35 t326 x6_2).f1))), (wrap64 (x6_2 + 1)), (by first | rfl | (simp; done) | (simp [*]; done)), (by first | rfl | (simp; done) | (simp [*]; done)), H', ⟨by have := HJ2.out; have := HK2.out; omega⟩, ⟨by (with_reducible repeat (first | apply Kd.R_alloc | apply Kd.R_drewN | apply Kd.R_drew)); exact HO_4.out⟩, ⟨by repeat (first | (with_reducible first | exact HB.out | apply below_alloc | apply pw_below_drewN | apply below_drew1) | exact HB.out)⟩⟩
                      · rw [if_neg c16] at H
                        exact absurd H (by simp)
                    · rw [if_neg c15] at H
                      exact absurd H (by simp)
                  · rw [if_neg c13] at H
                    have c13b0 : decide (0 < x6_2) = false := decide_eq_false c13
                    clear c13
                    have H' := Aside0.mk H
                    clear H
                    obtain ⟨Ao20, co20, eo20⟩ := Kd.R_slice HO_4.out
                    subst eo20
                    have p329 : 0 ≤ (x6_2 : Int) := of_decide_eq_true (by first | (with_reducible assumption) | assumption)
                    have q329 : x6_2 < (t326.length : Int) := of_decide_eq_true (by first | (with_reducible assumption) | assumption)
                    obtain ⟨ad329, e329, hx329_0, hx329_1⟩ := at_T35 (Kd.R_reads' HO_4.out).2.2 x6_2 p329 q329
                    cases e329
                    replace p329 := eq_true p329
                    replace q329 := eq_true q329
                    have p333 : 0 ≤ (x6_2 : Int) := of_decide_eq_true (by first | (with_reducible assumption) | assumption)
                    have q333 : x6_2 < (t326.length : Int) := of_decide_eq_true (by first | (with_reducible assumption) | assumption)
                    obtain ⟨ad333, e333, hx333_0, hx333_1⟩ := at_T35 (Kd.R_reads' HO_4.out).2.2 x6_2 p333 q333
                    obtain rfl : ad329 = ad333 := (by injection e333)
                    replace p333 := eq_true p333
                    replace q333 := eq_true q333
                    go_wp2
                    repeat (go_quiet (fail); try go_wp2)
                    go_roundg k2
                    case measure => have := HJ2.out; have := HK2.out; omega
                    case rel => exact ⟨(wrap64 (x5_2 + ((rd_T35 t326 x6_2).f1))), (wrap64 (x6_2 + 1)), (by first | rfl | (simp; done) | (simp [*]; done)), (by first | rfl | (simp; done) | (simp [*]; done)), H', ⟨by have := HJ2.out; have := HK2.out; omega⟩, ⟨by (with_reducible repeat (first | apply Kd.R_alloc | apply Kd.R_drewN | apply Kd.R_drew)); exact HO_4.out⟩, ⟨by repeat (first | (with_reducible first | exact HB.out | apply below_alloc | apply pw_below_drewN | apply below_drew1) | exact HB.out)⟩⟩
              · rw [if_neg c10] at H
                exact absurd H (by simp)
            · rw [if_neg c9] at H
              have c9b0 : decide (x6_2 < (t326.length : Int)) = false := decide_eq_false c9
              clear c9
              replace H := Option.bind_eq_some_iff.mp H
              obtain ⟨⟨t334, t337⟩, A210, H⟩ := H
              replace H : (if t337 = 0 then (if (t334.length : Int) < 2 then (some false) else (if 0 < (t334.length : Int) then (if (rd t334 0) > 2 then (some false) else (if x5_2 = (l0.length : Int) then (if 1 ≤ (t334.length : Int) then ((winnowerref01_GetLen.f (t334.drop 1)).bind fun bt344 => (if bt344.2.2 = 0 then (some (bt344.1 == (l0.length : Int))) else (some false))) else (none)) else (some false))) else (none))) else (some false)) = some r := H
              have A21 := Aside0.mk A210
              clear A210
              by_cases c22 : t337 = 0
              · rw [if_pos c22] at H
                have c22b0 : (t337 == 0) = true := beq_iff_eq.mpr c22
                have c22b1 : (t337 != 0) = false := bne_eq_false_iff_eq.mpr c22
                clear c22
                by_cases c23 : (t334.length : Int) < 2
                · rw [if_pos c23] at H
                  have c23b0 : decide ((t334.length : Int) < 2) = true := decide_eq_true c23
                  have c23b1 : decide (t334.length < 2) = true := decide_eq_true (by omega)
                  clear c23
                  obtain rfl := Option.some.inj H
                  obtain ⟨Ao24, co24, eo24⟩ := Kd.R_slice HO_4.out
                  subst eo24
                  go_wp2_with (first | (go_at_call 10; (with_reducible refine (runs_Encode.calls _ _ l0 t334 t337 _ ?side1 ?side2 A21.out).mono ?_); (case side1 => repeat (first | exact (Kd.C_below HR0.out HB.out) | (with_reducible refine Kd.C_alloc ?_ _) | (with_reducible refine Kd.C_drewN ?_ _) | (with_reducible refine Kd.C_drew ?_))); (case side2 => exact HC0.out); rintro e w25 ⟨v335, rfl, ho0, hb⟩; have n0_ := Aside0.mk (Kd.R_below (by (with_reducible repeat (first | apply Kd.R_alloc | apply Kd.R_drewN | apply Kd.R_drew)); exact HO_4.out) hb); have n1_ := Aside0.mk (Kd.V_lower (Kd.V_mono (ok' := fun k_ => some k_ ≠ (.slice Ao24 t326.length co24 : Value).ownBlock) ho0 (fun k_ hk_ => (Kd.fresh' (Kd.R_lt (by (with_reducible repeat (first | apply Kd.R_alloc | apply Kd.R_drewN | apply Kd.R_drew)); exact HO_4.out)) k_ hk_))) (below_size (by repeat (first | (with_reducible first | exact HB.out | apply below_alloc | apply pw_below_drewN | apply below_drew1) | exact HB.out)))); have n2_ := Aside0.mk (below_step (by repeat (first | (with_reducible first | exact HB.out | apply below_alloc | apply pw_below_drewN | apply below_drew1) | exact HB.out)) hb); clear HO_4; clear HB; have HO_4 := n0_; have HO336 := n1_; have HB := n2_; clear n0_ n1_ n2_; (try clear hb); (try clear hb2); (try clear hk); (try clear hi); (try clear ho0); obtain ⟨Ao26, co26, eo26⟩ := Kd.V_slice HO336.out; subst eo26))
                  repeat (go_quiet (first | (go_at_call 10; (with_reducible refine (runs_Encode.calls _ _ l0 t334 t337 _ ?side1 ?side2 A21.out).mono ?_); (case side1 => repeat (first | exact (Kd.C_below HR0.out HB.out) | (with_reducible refine Kd.C_alloc ?_ _) | (with_reducible refine Kd.C_drewN ?_ _) | (with_reducible refine Kd.C_drew ?_))); (case side2 => exact HC0.out); rintro e w25 ⟨v335, rfl, ho0, hb⟩; have n0_ := Aside0.mk (Kd.R_below (by (with_reducible repeat (first | apply Kd.R_alloc | apply Kd.R_drewN | apply Kd.R_drew)); exact HO_4.out) hb); have n1_ := Aside0.mk (Kd.V_lower (Kd.V_mono (ok' := fun k_ => some k_ ≠ (.slice Ao24 t326.length co24 : Value).ownBlock) ho0 (fun k_ hk_ => (Kd.fresh' (Kd.R_lt (by (with_reducible repeat (first | apply Kd.R_alloc | apply Kd.R_drewN | apply Kd.R_drew)); exact HO_4.out)) k_ hk_))) (below_size (by repeat (first | (with_reducible first | exact HB.out | apply below_alloc | apply pw_below_drewN | apply below_drew1) | exact HB.out)))); have n2_ := Aside0.mk (below_step (by repeat (first | (with_reducible first | exact HB.out | apply below_alloc | apply pw_below_drewN | apply below_drew1) | exact HB.out)) hb); clear HO_4; clear HB; have HO_4 := n0_; have HO336 := n1_; have HB := n2_; clear n0_ n1_ n2_; (try clear hb); (try clear hb2); (try clear hk); (try clear hi); (try clear ho0); obtain ⟨Ao26, co26, eo26⟩ := Kd.V_slice HO336.out; subst eo26)); try go_wp2_with (first | (go_at_call 10; (with_reducible refine (runs_Encode.calls _ _ l0 t334 t337 _ ?side1 ?side2 A21.out).mono ?_); (case side1 => repeat (first | exact (Kd.C_below HR0.out HB.out) | (with_reducible refine Kd.C_alloc ?_ _) | (with_reducible refine Kd.C_drewN ?_ _) | (with_reducible refine Kd.C_drew ?_))); (case side2 => exact HC0.out); rintro e w25 ⟨v335, rfl, ho0, hb⟩; have n0_ := Aside0.mk (Kd.R_below (by (with_reducible repeat (first | apply Kd.R_alloc | apply Kd.R_drewN | apply Kd.R_drew)); exact HO_4.out) hb); have n1_ := Aside0.mk (Kd.V_lower (Kd.V_mono (ok' := fun k_ => some k_ ≠ (.slice Ao24 t326.length co24 : Value).ownBlock) ho0 (fun k_ hk_ => (Kd.fresh' (Kd.R_lt (by (with_reducible repeat (first | apply Kd.R_alloc | apply Kd.R_drewN | apply Kd.R_drew)); exact HO_4.out)) k_ hk_))) (below_size (by repeat (first | (with_reducible first | exact HB.out | apply below_alloc | apply pw_below_drewN | apply below_drew1) | exact HB.out)))); have n2_ := Aside0.mk (below_step (by repeat (first | (with_reducible first | exact HB.out | apply below_alloc | apply pw_below_drewN | apply below_drew1) | exact HB.out)) hb); clear HO_4; clear HB; have HO_4 := n0_; have HO336 := n1_; have HB := n2_; clear n0_ n1_ n2_; (try clear hb); (try clear hb2); (try clear hk); (try clear hi); (try clear ho0); obtain ⟨Ao26, co26, eo26⟩ := Kd.V_slice HO336.out; subst eo26)))
                  go_ret
                  exact ⟨by first | rfl | (simp [errW_none, errW_some] <;> rfl) | (refine congrArg (fun b_ : Bool => Ending.returned (Value.bool b_)) ?_; simp; done) | (simp [*, errW_none, errW_some] <;> rfl), by repeat (first | (with_reducible first | exact HB.out | apply below_alloc | apply pw_below_drewN | apply below_drew1) | exact HB.out)⟩
                · rw [if_neg c23] at H
                  have c23b0 : decide ((t334.length : Int) < 2) = false := decide_eq_false c23
                  have c23b1 : decide (t334.length < 2) = false := decide_eq_false (by omega)
                  clear c23
                  by_cases c27 : 0 < (t334.length : Int)
                  · rw [if_pos c27] at H
                    have c27b0 : decide (0 < (t334.length : Int)) = true := decide_eq_true c27
                    have c27b1 : decide (0 < t334.length) = true := decide_eq_true (by omega)
                    clear c27
                    by_cases c28 : (rd t334 0) > 2
                    · rw [if_pos c28] at H
                      have c28b0 : decide (2 < (rd t334 0)) = true := decide_eq_true c28
                      clear c28
                      obtain rfl := Option.some.inj H
                      obtain ⟨Ao29, co29, eo29⟩ := Kd.R_slice HO_4.out
                      subst eo29
                      go_wp2_with (first | (go_at_call 10; (with_reducible refine (runs_Encode.calls _ _ l0 t334 t337 _ ?side1 ?side2 A21.out).mono ?_); (case side1 => repeat (first | exact (Kd.C_below HR0.out HB.out) | (with_reducible refine Kd.C_alloc ?_ _) | (with_reducible refine Kd.C_drewN ?_ _) | (with_reducible refine Kd.C_drew ?_))); (case side2 => exact HC0.out); rintro e w30 ⟨v335, rfl, ho0, hb⟩; have n0_ := Aside0.mk (Kd.R_below (by (with_reducible repeat (first | apply Kd.R_alloc | apply Kd.R_drewN | apply Kd.R_drew)); exact HO_4.out) hb); have n1_ := Aside0.mk (Kd.V_lower (Kd.V_mono (ok' := fun k_ => some k_ ≠ (.slice Ao29 t326.length co29 : Value).ownBlock) ho0 (fun k_ hk_ => (Kd.fresh' (Kd.R_lt (by (with_reducible repeat (first | apply Kd.R_alloc | apply Kd.R_drewN | apply Kd.R_drew)); exact HO_4.out)) k_ hk_))) (below_size (by repeat (first | (with_reducible first | exact HB.out | apply below_alloc | apply pw_below_drewN | apply below_drew1) | exact HB.out)))); have n2_ := Aside0.mk (below_step (by repeat (first | (with_reducible first | exact HB.out | apply below_alloc | apply pw_below_drewN | apply below_drew1) | exact HB.out)) hb); clear HO_4; clear HB; have HO_4 := n0_; have HO336 := n1_; have HB := n2_; clear n0_ n1_ n2_; (try clear hb); (try clear hb2); (try clear hk); (try clear hi); (try clear ho0); obtain ⟨Ao31, co31, eo31⟩ := Kd.V_slice HO336.out; subst eo31; have p338 : 0 ≤ (0 : Int) := (by omega); have q338 : 0 < (t334.length : Int) := of_decide_eq_true (by first | (with_reducible assumption) | assumption); obtain ⟨ad338, e338, hx338_0⟩ := Kd.at_int (Kd.V_reads' HO336.out).2.2 0 p338 q338; cases e338; have qi338 : (0 < t334.length) = True := eq_true (by omega); (try rw [show ((0 : Int)).toNat = 0 from rfl] at hx338_0); (try rw [Addr.add_zero'] at hx338_0); replace p338 := eq_true p338; replace q338 := eq_true q338))
                      repeat (go_quiet (first | (go_at_call 10; (with_reducible refine (runs_Encode.calls _ _ l0 t334 t337 _ ?side1 ?side2 A21.out).mono ?_); (case side1 => repeat (first | exact (Kd.C_below HR0.out HB.out) | (with_reducible refine Kd.C_alloc ?_ _) | (with_reducible refine Kd.C_drewN ?_ _) | (with_reducible refine Kd.C_drew ?_))); (case side2 => exact HC0.out); rintro e w30 ⟨v335, rfl, ho0, hb⟩; have n0_ := Aside0.mk (Kd.R_below (by (with_reducible repeat (first | apply Kd.R_alloc | apply Kd.R_drewN | apply Kd.R_drew)); exact HO_4.out) hb); have n1_ := Aside0.mk (Kd.V_lower (Kd.V_mono (ok' := fun k_ => some k_ ≠ (.slice Ao29 t326.length co29 : Value).ownBlock) ho0 (fun k_ hk_ => (Kd.fresh' (Kd.R_lt (by (with_reducible repeat (first | apply Kd.R_alloc | apply Kd.R_drewN | apply Kd.R_drew)); exact HO_4.out)) k_ hk_))) (below_size (by repeat (first | (with_reducible first | exact HB.out | apply below_alloc | apply pw_below_drewN | apply below_drew1) | exact HB.out)))); have n2_ := Aside0.mk (below_step (by repeat (first | (with_reducible first | exact HB.out | apply below_alloc | apply pw_below_drewN | apply below_drew1) | exact HB.out)) hb); clear HO_4; clear HB; have HO_4 := n0_; have HO336 := n1_; have HB := n2_; clear n0_ n1_ n2_; (try clear hb); (try clear hb2); (try clear hk); (try clear hi); (try clear ho0); obtain ⟨Ao31, co31, eo31⟩ := Kd.V_slice HO336.out; subst eo31; have p338 : 0 ≤ (0 : Int) := (by omega); have q338 : 0 < (t334.length : Int) := of_decide_eq_true (by first | (with_reducible assumption) | assumption); obtain ⟨ad338, e338, hx338_0⟩ := Kd.at_int (Kd.V_reads' HO336.out).2.2 0 p338 q338; cases e338; have qi338 : (0 < t334.length) = True := eq_true (by omega); (try rw [show ((0 : Int)).toNat = 0 from rfl] at hx338_0); (try rw [Addr.add_zero'] at hx338_0); replace p338 := eq_true p338; replace q338 := eq_true q338)); try go_wp2_with (first | (go_at_call 10; (with_reducible refine (runs_Encode.calls _ _ l0 t334 t337 _ ?side1 ?side2 A21.out).mono ?_); (case side1 => repeat (first | exact (Kd.C_below HR0.out HB.out) | (with_reducible refine Kd.C_alloc ?_ _) | (with_reducible refine Kd.C_drewN ?_ _) | (with_reducible refine Kd.C_drew ?_))); (case side2 => exact HC0.out); rintro e w30 ⟨v335, rfl, ho0, hb⟩; have n0_ := Aside0.mk (Kd.R_below (by (with_reducible repeat (first | apply Kd.R_alloc | apply Kd.R_drewN | apply Kd.R_drew)); exact HO_4.out) hb); have n1_ := Aside0.mk (Kd.V_lower (Kd.V_mono (ok' := fun k_ => some k_ ≠ (.slice Ao29 t326.length co29 : Value).ownBlock) ho0 (fun k_ hk_ => (Kd.fresh' (Kd.R_lt (by (with_reducible repeat (first | apply Kd.R_alloc | apply Kd.R_drewN | apply Kd.R_drew)); exact HO_4.out)) k_ hk_))) (below_size (by repeat (first | (with_reducible first | exact HB.out | apply below_alloc | apply pw_below_drewN | apply below_drew1) | exact HB.out)))); have n2_ := Aside0.mk (below_step (by repeat (first | (with_reducible first | exact HB.out | apply below_alloc | apply pw_below_drewN | apply below_drew1) | exact HB.out)) hb); clear HO_4; clear HB; have HO_4 := n0_; have HO336 := n1_; have HB := n2_; clear n0_ n1_ n2_; (try clear hb); (try clear hb2); (try clear hk); (try clear hi); (try clear ho0); obtain ⟨Ao31, co31, eo31⟩ := Kd.V_slice HO336.out; subst eo31; have p338 : 0 ≤ (0 : Int) := (by omega); have q338 : 0 < (t334.length : Int) := of_decide_eq_true (by first | (with_reducible assumption) | assumption); obtain ⟨ad338, e338, hx338_0⟩ := Kd.at_int (Kd.V_reads' HO336.out).2.2 0 p338 q338; cases e338; have qi338 : (0 < t334.length) = True := eq_true (by omega); (try rw [show ((0 : Int)).toNat = 0 from rfl] at hx338_0); (try rw [Addr.add_zero'] at hx338_0); replace p338 := eq_true p338; replace q338 := eq_true q338)))
                      go_ret
                      exact ⟨by first | rfl | (simp [errW_none, errW_some] <;> rfl) | (refine congrArg (fun b_ : Bool => Ending.returned (Value.bool b_)) ?_; simp; done) | (simp [*, errW_none, errW_some] <;> rfl), by repeat (first | (with_reducible first | exact HB.out | apply below_alloc | apply pw_below_drewN | apply below_drew1) | exact HB.out)⟩
                    · rw [if_neg c28] at H
                      have c28b0 : decide (2 < (rd t334 0)) = false := decide_eq_false c28
                      clear c28
                      by_cases c32 : x5_2 = (l0.length : Int)
                      · rw [if_pos c32] at H
                        have c32b0 : (x5_2 == (l0.length : Int)) = true := beq_iff_eq.mpr c32
                        have c32b1 : (x5_2 != (l0.length : Int)) = false := bne_eq_false_iff_eq.mpr c32
                        clear c32
                        by_cases c33 : 1 ≤ (t334.length : Int)
                        · rw [if_pos c33] at H
                          have c33b0 := eq_true c33
                          have c33b1 : decide (1 ≤ (t334.length : Int)) = true := decide_eq_true c33
                          clear c33
                          obtain ⟨y339, hy339⟩ : ∃ y_ : List Int, y_ = (t334.drop 1) := ⟨_, rfl⟩
                          replace H : ((winnowerref01_GetLen.f y339).bind fun bt344 => (if bt344.2.2 = 0 then (some (bt344.1 == (l0.length : Int))) else (some false))) = some r := by first | (rw [hy339]; with_reducible exact H) | (have H2_ := (Option.bind_some _ _).symm.trans H; rw [hy339]; with_reducible exact H2_) | (have H2_ := (Option.bind_some _ _).symm.trans H; with_reducible exact H2_) | with_reducible exact H | (rw [hy339]; exact H) | exact H
                          have Ny339 := Aside0.mk hy339
                          clear hy339
                          replace H := Option.bind_eq_some_iff.mp H
                          obtain ⟨⟨t344, t345, t346⟩, A340, H⟩ := H
                          replace H : (if t346 = 0 then (some (t344 == (l0.length : Int))) else (some false)) = some r := H
                          have A34 := Aside0.mk A340
                          clear A340
                          by_cases c35 : t346 = 0
                          · rw [if_pos c35] at H
                            have c35b0 : (t346 == 0) = true := beq_iff_eq.mpr c35
                            have c35b1 : (t346 != 0) = false := bne_eq_false_iff_eq.mpr c35
                            clear c35
                            obtain rfl := Option.some.inj H
                            obtain ⟨Ao36, co36, eo36⟩ := Kd.R_slice HO_4.out
                            subst eo36
                            go_wp2_with (first | (go_at_call 10; (with_reducible refine (runs_Encode.calls _ _ l0 t334 t337 _ ?side1 ?side2 A21.out).mono ?_); (case side1 => repeat (first | exact (Kd.C_below HR0.out HB.out) | (with_reducible refine Kd.C_alloc ?_ _) | (with_reducible refine Kd.C_drewN ?_ _) | (with_reducible refine Kd.C_drew ?_))); (case side2 => exact HC0.out); rintro e w37 ⟨v335, rfl, ho0, hb⟩; have n0_ := Aside0.mk (Kd.R_below (by (with_reducible repeat (first | apply Kd.R_alloc | apply Kd.R_drewN | apply Kd.R_drew)); exact HO_4.out) hb); have n1_ := Aside0.mk (Kd.V_lower (Kd.V_mono (ok' := fun k_ => some k_ ≠ (.slice Ao36 t326.length co36 : Value).ownBlock) ho0 (fun k_ hk_ => (Kd.fresh' (Kd.R_lt (by (with_reducible repeat (first | apply Kd.R_alloc | apply Kd.R_drewN | apply Kd.R_drew)); exact HO_4.out)) k_ hk_))) (below_size (by repeat (first | (with_reducible first | exact HB.out | apply below_alloc | apply pw_below_drewN | apply below_drew1) | exact HB.out)))); have n2_ := Aside0.mk (below_step (by repeat (first | (with_reducible first | exact HB.out | apply below_alloc | apply pw_below_drewN | apply below_drew1) | exact HB.out)) hb); clear HO_4; clear HB; have HO_4 := n0_; have HO336 := n1_; have HB := n2_; clear n0_ n1_ n2_; (try clear hb); (try clear hb2); (try clear hk); (try clear hi); (try clear ho0); obtain ⟨Ao38, co38, eo38⟩ := Kd.V_slice HO336.out; subst eo38; have p338 : 0 ≤ (0 : Int) := (by omega); have q338 : 0 < (t334.length : Int) := of_decide_eq_true (by first | (with_reducible assumption) | assumption); obtain ⟨ad338, e338, hx338_0⟩ := Kd.at_int (Kd.V_reads' HO336.out).2.2 0 p338 q338; cases e338; have qi338 : (0 < t334.length) = True := eq_true (by omega); (try rw [show ((0 : Int)).toNat = 0 from rfl] at hx338_0); (try rw [Addr.add_zero'] at hx338_0); replace p338 := eq_true p338; replace q338 := eq_true q338; have q39 : (1 : Int) ≤ ((t334.length : Int) : Int) := of_decide_eq_true (by first | (with_reducible assumption) | assumption); obtain ⟨i039, hi039, _, hsz39, _⟩ := info_parts info5; have hroom39 : t334.length ≤ co38 := (Kd.V_reads' HO336.out).2.1; have hC39 : Kd.F (Kd.int .u8) _ _ (some ad338) t334.length t334 := (Kd.V_at (base := w.heap.size) HO336.out).2.2; have hcut39 := cut_from (P := Try.prog) 24 5 .i64 Try.underlying24 hi039 1 hsz39 (some ad338) t334.length co38 1 (by omega) q39; have hr39 := Kd.F_cut (m := (1 : Int).toNat) (c := co38) hC39 (by omega) hroom39; obtain ⟨A39, hA39⟩ : ∃ A1, A1 = (if co38 = (1 : Int).toNat then (some ad338) else ((some ad338) : Option Addr).map (·.add ((1 : Int).toNat * 1))) := ⟨_, rfl⟩; obtain ⟨c39, hc39⟩ : ∃ c1, c1 = co38 - (1 : Int).toNat := ⟨_, rfl⟩; have hy39 : y339.length = t334.length - (1 : Int).toNat := (by rw [Ny339.out, List.length_drop] <;> omega); rw [show (t334).drop (1 : Int).toNat = y339 from Ny339.out.symm] at hr39; replace hr39 : Kd.F (Kd.int .u8) _ _ A39 y339.length y339 := (by rw [hA39]; exact hr39); rw [← hy39, ← hA39, ← hc39] at hcut39; have HO343 := Aside0.mk (show Kd.V (Kd.int .u8) 5 _ w.heap.size _ (.slice A39 y339.length c39) y339 from Kd.V_mk (by rw [hy39, hc39]; exact Nat.sub_le_sub_right hroom39 _) hr39); have HC343 := Aside0.mk (show y339.length ≤ c39 from by rw [hy39, hc39]; exact Nat.sub_le_sub_right hroom39 _); clear hr39 hC39 hroom39 hi039 hsz39 hc39; have KY39 := Aside0.mk hy39; have KA39 := Aside0.mk hA39; clear hy39 hA39; replace q39 := eq_true q39) | (go_at_call 15; (with_reducible refine (winnowerref01_GetLen.calls _ _ y339 t344 t345 t346 _ ?side1 ?side2 A34.out).mono ?_); (case side1 => repeat (first | exact (Kd.V_reads' HO343.out).2.2 | (with_reducible refine Kd.C_alloc ?_ _) | (with_reducible refine Kd.C_drewN ?_ _) | (with_reducible refine Kd.C_drew ?_))); (case side2 => exact (Kd.V_reads' HO343.out).2.1); rintro e w' ⟨rfl, ⟨nd, rfl⟩⟩; (try first | exact ⟨rfl, _, World.drewN_drewN _ _ _⟩ | exact ⟨rfl, _, Eq.trans (World.drewN_drewN _ _ _) (congrArg (World.drewN _) (Nat.add_assoc _ _ _))⟩)))
                            repeat (go_quiet (first | (go_at_call 10; (with_reducible refine (runs_Encode.calls _ _ l0 t334 t337 _ ?side1 ?side2 A21.out).mono ?_); (case side1 => repeat (first | exact (Kd.C_below HR0.out HB.out) | (with_reducible refine Kd.C_alloc ?_ _) | (with_reducible refine Kd.C_drewN ?_ _) | (with_reducible refine Kd.C_drew ?_))); (case side2 => exact HC0.out); rintro e w37 ⟨v335, rfl, ho0, hb⟩; have n0_ := Aside0.mk (Kd.R_below (by (with_reducible repeat (first | apply Kd.R_alloc | apply Kd.R_drewN | apply Kd.R_drew)); exact HO_4.out) hb); have n1_ := Aside0.mk (Kd.V_lower (Kd.V_mono (ok' := fun k_ => some k_ ≠ (.slice Ao36 t326.length co36 : Value).ownBlock) ho0 (fun k_ hk_ => (Kd.fresh' (Kd.R_lt (by (with_reducible repeat (first | apply Kd.R_alloc | apply Kd.R_drewN | apply Kd.R_drew)); exact HO_4.out)) k_ hk_))) (below_size (by repeat (first | (with_reducible first | exact HB.out | apply below_alloc | apply pw_below_drewN | apply below_drew1) | exact HB.out)))); have n2_ := Aside0.mk (below_step (by repeat (first | (with_reducible first | exact HB.out | apply below_alloc | apply pw_below_drewN | apply below_drew1) | exact HB.out)) hb); clear HO_4; clear HB; have HO_4 := n0_; have HO336 := n1_; have HB := n2_; clear n0_ n1_ n2_; (try clear hb); (try clear hb2); (try clear hk); (try clear hi); (try clear ho0); obtain ⟨Ao38, co38, eo38⟩ := Kd.V_slice HO336.out; subst eo38; have p338 : 0 ≤ (0 : Int) := (by omega); have q338 : 0 < (t334.length : Int) := of_decide_eq_true (by first | (with_reducible assumption) | assumption); obtain ⟨ad338, e338, hx338_0⟩ := Kd.at_int (Kd.V_reads' HO336.out).2.2 0 p338 q338; cases e338; have qi338 : (0 < t334.length) = True := eq_true (by omega); (try rw [show ((0 : Int)).toNat = 0 from rfl] at hx338_0); (try rw [Addr.add_zero'] at hx338_0); replace p338 := eq_true p338; replace q338 := eq_true q338; have q39 : (1 : Int) ≤ ((t334.length : Int) : Int) := of_decide_eq_true (by first | (with_reducible assumption) | assumption); obtain ⟨i039, hi039, _, hsz39, _⟩ := info_parts info5; have hroom39 : t334.length ≤ co38 := (Kd.V_reads' HO336.out).2.1; have hC39 : Kd.F (Kd.int .u8) _ _ (some ad338) t334.length t334 := (Kd.V_at (base := w.heap.size) HO336.out).2.2; have hcut39 := cut_from (P := Try.prog) 24 5 .i64 Try.underlying24 hi039 1 hsz39 (some ad338) t334.length co38 1 (by omega) q39; have hr39 := Kd.F_cut (m := (1 : Int).toNat) (c := co38) hC39 (by omega) hroom39; obtain ⟨A39, hA39⟩ : ∃ A1, A1 = (if co38 = (1 : Int).toNat then (some ad338) else ((some ad338) : Option Addr).map (·.add ((1 : Int).toNat * 1))) := ⟨_, rfl⟩; obtain ⟨c39, hc39⟩ : ∃ c1, c1 = co38 - (1 : Int).toNat := ⟨_, rfl⟩; have hy39 : y339.length = t334.length - (1 : Int).toNat := (by rw [Ny339.out, List.length_drop] <;> omega); rw [show (t334).drop (1 : Int).toNat = y339 from Ny339.out.symm] at hr39; replace hr39 : Kd.F (Kd.int .u8) _ _ A39 y339.length y339 := (by rw [hA39]; exact hr39); rw [← hy39, ← hA39, ← hc39] at hcut39; have HO343 := Aside0.mk (show Kd.V (Kd.int .u8) 5 _ w.heap.size _ (.slice A39 y339.length c39) y339 from Kd.V_mk (by rw [hy39, hc39]; exact Nat.sub_le_sub_right hroom39 _) hr39); have HC343 := Aside0.mk (show y339.length ≤ c39 from by rw [hy39, hc39]; exact Nat.sub_le_sub_right hroom39 _); clear hr39 hC39 hroom39 hi039 hsz39 hc39; have KY39 := Aside0.mk hy39; have KA39 := Aside0.mk hA39; clear hy39 hA39; replace q39 := eq_true q39) | (go_at_call 15; (with_reducible refine (winnowerref01_GetLen.calls _ _ y339 t344 t345 t346 _ ?side1 ?side2 A34.out).mono ?_); (case side1 => repeat (first | exact (Kd.V_reads' HO343.out).2.2 | (with_reducible refine Kd.C_alloc ?_ _) | (with_reducible refine Kd.C_drewN ?_ _) | (with_reducible refine Kd.C_drew ?_))); (case side2 => exact (Kd.V_reads' HO343.out).2.1); rintro e w' ⟨rfl, ⟨nd, rfl⟩⟩; (try first | exact ⟨rfl, _, World.drewN_drewN _ _ _⟩ | exact ⟨rfl, _, Eq.trans (World.drewN_drewN _ _ _) (congrArg (World.drewN _) (Nat.add_assoc _ _ _))⟩))); try go_wp2_with (first | (go_at_call 10; (with_reducible refine (runs_Encode.calls _ _ l0 t334 t337 _ ?side1 ?side2 A21.out).mono ?_); (case side1 => repeat (first | exact (Kd.C_below HR0.out HB.out) | (with_reducible refine Kd.C_alloc ?_ _) | (with_reducible refine Kd.C_drewN ?_ _) | (with_reducible refine Kd.C_drew ?_))); (case side2 => exact HC0.out); rintro e w37 ⟨v335, rfl, ho0, hb⟩; have n0_ := Aside0.mk (Kd.R_below (by (with_reducible repeat (first | apply Kd.R_alloc | apply Kd.R_drewN | apply Kd.R_drew)); exact HO_4.out) hb); have n1_ := Aside0.mk (Kd.V_lower (Kd.V_mono (ok' := fun k_ => some k_ ≠ (.slice Ao36 t326.length co36 : Value).ownBlock) ho0 (fun k_ hk_ => (Kd.fresh' (Kd.R_lt (by (with_reducible repeat (first | apply Kd.R_alloc | apply Kd.R_drewN | apply Kd.R_drew)); exact HO_4.out)) k_ hk_))) (below_size (by repeat (first | (with_reducible first | exact HB.out | apply below_alloc | apply pw_below_drewN | apply below_drew1) | exact HB.out)))); have n2_ := Aside0.mk (below_step (by repeat (first | (with_reducible first | exact HB.out | apply below_alloc | apply pw_below_drewN | apply below_drew1) | exact HB.out)) hb); clear HO_4; clear HB; have HO_4 := n0_; have HO336 := n1_; have HB := n2_; clear n0_ n1_ n2_; (try clear hb); (try clear hb2); (try clear hk); (try clear hi); (try clear ho0); obtain ⟨Ao38, co38, eo38⟩ := Kd.V_slice HO336.out; subst eo38; have p338 : 0 ≤ (0 : Int) := (by omega); have q338 : 0 < (t334.length : Int) := of_decide_eq_true (by first | (with_reducible assumption) | assumption); obtain ⟨ad338, e338, hx338_0⟩ := Kd.at_int (Kd.V_reads' HO336.out).2.2 0 p338 q338; cases e338; have qi338 : (0 < t334.length) = True := eq_true (by omega); (try rw [show ((0 : Int)).toNat = 0 from rfl] at hx338_0); (try rw [Addr.add_zero'] at hx338_0); replace p338 := eq_true p338; replace q338 := eq_true q338; have q39 : (1 : Int) ≤ ((t334.length : Int) : Int) := of_decide_eq_true (by first | (with_reducible assumption) | assumption); obtain ⟨i039, hi039, _, hsz39, _⟩ := info_parts info5; have hroom39 : t334.length ≤ co38 := (Kd.V_reads' HO336.out).2.1; have hC39 : Kd.F (Kd.int .u8) _ _ (some ad338) t334.length t334 := (Kd.V_at (base := w.heap.size) HO336.out).2.2; have hcut39 := cut_from (P := Try.prog) 24 5 .i64 Try.underlying24 hi039 1 hsz39 (some ad338) t334.length co38 1 (by omega) q39; have hr39 := Kd.F_cut (m := (1 : Int).toNat) (c := co38) hC39 (by omega) hroom39; obtain ⟨A39, hA39⟩ : ∃ A1, A1 = (if co38 = (1 : Int).toNat then (some ad338) else ((some ad338) : Option Addr).map (·.add ((1 : Int).toNat * 1))) := ⟨_, rfl⟩; obtain ⟨c39, hc39⟩ : ∃ c1, c1 = co38 - (1 : Int).toNat := ⟨_, rfl⟩; have hy39 : y339.length = t334.length - (1 : Int).toNat := (by rw [Ny339.out, List.length_drop] <;> omega); rw [show (t334).drop (1 : Int).toNat = y339 from Ny339.out.symm] at hr39; replace hr39 : Kd.F (Kd.int .u8) _ _ A39 y339.length y339 := (by rw [hA39]; exact hr39); rw [← hy39, ← hA39, ← hc39] at hcut39; have HO343 := Aside0.mk (show Kd.V (Kd.int .u8) 5 _ w.heap.size _ (.slice A39 y339.length c39) y339 from Kd.V_mk (by rw [hy39, hc39]; exact Nat.sub_le_sub_right hroom39 _) hr39); have HC343 := Aside0.mk (show y339.length ≤ c39 from by rw [hy39, hc39]; exact Nat.sub_le_sub_right hroom39 _); clear hr39 hC39 hroom39 hi039 hsz39 hc39; have KY39 := Aside0.mk hy39; have KA39 := Aside0.mk hA39; clear hy39 hA39; replace q39 := eq_true q39) | (go_at_call 15; (with_reducible refine (winnowerref01_GetLen.calls _ _ y339 t344 t345 t346 _ ?side1 ?side2 A34.out).mono ?_); (case side1 => repeat (first | exact (Kd.V_reads' HO343.out).2.2 | (with_reducible refine Kd.C_alloc ?_ _) | (with_reducible refine Kd.C_drewN ?_ _) | (with_reducible refine Kd.C_drew ?_))); (case side2 => exact (Kd.V_reads' HO343.out).2.1); rintro e w' ⟨rfl, ⟨nd, rfl⟩⟩; (try first | exact ⟨rfl, _, World.drewN_drewN _ _ _⟩ | exact ⟨rfl, _, Eq.trans (World.drewN_drewN _ _ _) (congrArg (World.drewN _) (Nat.add_assoc _ _ _))⟩))))
                            go_ret
                            exact ⟨by first | rfl | (simp [errW_none, errW_some] <;> rfl) | (refine congrArg (fun b_ : Bool => Ending.returned (Value.bool b_)) ?_; simp; done) | (simp [*, errW_none, errW_some] <;> rfl), by repeat (first | (with_reducible first | exact HB.out | apply below_alloc | apply pw_below_drewN | apply below_drew1) | exact HB.out)⟩
                          · rw [if_neg c35] at H
                            have c35b0 : (t346 == 0) = false := beq_eq_false_iff_ne.mpr c35
                            have c35b1 : (t346 != 0) = true := bne_iff_ne.mpr c35
                            obtain rfl := Option.some.inj H
                            obtain ⟨Ao40, co40, eo40⟩ := Kd.R_slice HO_4.out
                            subst eo40
                            go_wp2_with (first | (go_at_call 10; (with_reducible refine (runs_Encode.calls _ _ l0 t334 t337 _ ?side1 ?side2 A21.out).mono ?_); (case side1 => repeat (first | exact (Kd.C_below HR0.out HB.out) | (with_reducible refine Kd.C_alloc ?_ _) | (with_reducible refine Kd.C_drewN ?_ _) | (with_reducible refine Kd.C_drew ?_))); (case side2 => exact HC0.out); rintro e w41 ⟨v335, rfl, ho0, hb⟩; have n0_ := Aside0.mk (Kd.R_below (by (with_reducible repeat (first | apply Kd.R_alloc | apply Kd.R_drewN | apply Kd.R_drew)); exact HO_4.out) hb); have n1_ := Aside0.mk (Kd.V_lower (Kd.V_mono (ok' := fun k_ => some k_ ≠ (.slice Ao40 t326.length co40 : Value).ownBlock) ho0 (fun k_ hk_ => (Kd.fresh' (Kd.R_lt (by (with_reducible repeat (first | apply Kd.R_alloc | apply Kd.R_drewN | apply Kd.R_drew)); exact HO_4.out)) k_ hk_))) (below_size (by repeat (first | (with_reducible first | exact HB.out | apply below_alloc | apply pw_below_drewN | apply below_drew1) | exact HB.out)))); have n2_ := Aside0.mk (below_step (by repeat (first | (with_reducible first | exact HB.out | apply below_alloc | apply pw_below_drewN | apply below_drew1) | exact HB.out)) hb); clear HO_4; clear HB; have HO_4 := n0_; have HO336 := n1_; have HB := n2_; clear n0_ n1_ n2_; (try clear hb); (try clear hb2); (try clear hk); (try clear hi); (try clear ho0); obtain ⟨Ao42, co42, eo42⟩ := Kd.V_slice HO336.out; subst eo42; have p338 : 0 ≤ (0 : Int) := (by omega); have q338 : 0 < (t334.length : Int) := of_decide_eq_true (by first | (with_reducible assumption) | assumption); obtain ⟨ad338, e338, hx338_0⟩ := Kd.at_int (Kd.V_reads' HO336.out).2.2 0 p338 q338; cases e338; have qi338 : (0 < t334.length) = True := eq_true (by omega); (try rw [show ((0 : Int)).toNat = 0 from rfl] at hx338_0); (try rw [Addr.add_zero'] at hx338_0); replace p338 := eq_true p338; replace q338 := eq_true q338; have q43 : (1 : Int) ≤ ((t334.length : Int) : Int) := of_decide_eq_true (by first | (with_reducible assumption) | assumption); obtain ⟨i043, hi043, _, hsz43, _⟩ := info_parts info5; have hroom43 : t334.length ≤ co42 := (Kd.V_reads' HO336.out).2.1; have hC43 : Kd.F (Kd.int .u8) _ _ (some ad338) t334.length t334 := (Kd.V_at (base := w.heap.size) HO336.out).2.2; have hcut43 := cut_from (P := Try.prog) 24 5 .i64 Try.underlying24 hi043 1 hsz43 (some ad338) t334.length co42 1 (by omega) q43; have hr43 := Kd.F_cut (m := (1 : Int).toNat) (c := co42) hC43 (by omega) hroom43; obtain ⟨A43, hA43⟩ : ∃ A1, A1 = (if co42 = (1 : Int).toNat then (some ad338) else ((some ad338) : Option Addr).map (·.add ((1 : Int).toNat * 1))) := ⟨_, rfl⟩; obtain ⟨c43, hc43⟩ : ∃ c1, c1 = co42 - (1 : Int).toNat := ⟨_, rfl⟩; have hy43 : y339.length = t334.length - (1 : Int).toNat := (by rw [Ny339.out, List.length_drop] <;> omega); rw [show (t334).drop (1 : Int).toNat = y339 from Ny339.out.symm] at hr43; replace hr43 : Kd.F (Kd.int .u8) _ _ A43 y339.length y339 := (by rw [hA43]; exact hr43); rw [← hy43, ← hA43, ← hc43] at hcut43; have HO343 := Aside0.mk (show Kd.V (Kd.int .u8) 5 _ w.heap.size _ (.slice A43 y339.length c43) y339 from Kd.V_mk (by rw [hy43, hc43]; exact Nat.sub_le_sub_right hroom43 _) hr43); have HC343 := Aside0.mk (show y339.length ≤ c43 from by rw [hy43, hc43]; exact Nat.sub_le_sub_right hroom43 _); clear hr43 hC43 hroom43 hi043 hsz43 hc43; have KY43 := Aside0.mk hy43; have KA43 := Aside0.mk hA43; clear hy43 hA43; replace q43 := eq_true q43) | (go_at_call 15; (with_reducible refine (winnowerref01_GetLen.calls _ _ y339 t344 t345 t346 _ ?side1 ?side2 A34.out).mono ?_); (case side1 => repeat (first | exact (Kd.V_reads' HO343.out).2.2 | (with_reducible refine Kd.C_alloc ?_ _) | (with_reducible refine Kd.C_drewN ?_ _) | (with_reducible refine Kd.C_drew ?_))); (case side2 => exact (Kd.V_reads' HO343.out).2.1); rintro e w' ⟨rfl, ⟨nd, rfl⟩⟩; (try first | exact ⟨rfl, _, World.drewN_drewN _ _ _⟩ | exact ⟨rfl, _, Eq.trans (World.drewN_drewN _ _ _) (congrArg (World.drewN _) (Nat.add_assoc _ _ _))⟩)))
                            repeat (go_quiet (first | (go_at_call 10; (with_reducible refine (runs_Encode.calls _ _ l0 t334 t337 _ ?side1 ?side2 A21.out).mono ?_); (case side1 => repeat (first | exact (Kd.C_below HR0.out HB.out) | (with_reducible refine Kd.C_alloc ?_ _) | (with_reducible refine Kd.C_drewN ?_ _) | (with_reducible refine Kd.C_drew ?_))); (case side2 => exact HC0.out); rintro e w41 ⟨v335, rfl, ho0, hb⟩; have n0_ := Aside0.mk (Kd.R_below (by (with_reducible repeat (first | apply Kd.R_alloc | apply Kd.R_drewN | apply Kd.R_drew)); exact HO_4.out) hb); have n1_ := Aside0.mk (Kd.V_lower (Kd.V_mono (ok' := fun k_ => some k_ ≠ (.slice Ao40 t326.length co40 : Value).ownBlock) ho0 (fun k_ hk_ => (Kd.fresh' (Kd.R_lt (by (with_reducible repeat (first | apply Kd.R_alloc | apply Kd.R_drewN | apply Kd.R_drew)); exact HO_4.out)) k_ hk_))) (below_size (by repeat (first | (with_reducible first | exact HB.out | apply below_alloc | apply pw_below_drewN | apply below_drew1) | exact HB.out)))); have n2_ := Aside0.mk (below_step (by repeat (first | (with_reducible first | exact HB.out | apply below_alloc | apply pw_below_drewN | apply below_drew1) | exact HB.out)) hb); clear HO_4; clear HB; have HO_4 := n0_; have HO336 := n1_; have HB := n2_; clear n0_ n1_ n2_; (try clear hb); (try clear hb2); (try clear hk); (try clear hi); (try clear ho0); obtain ⟨Ao42, co42, eo42⟩ := Kd.V_slice HO336.out; subst eo42; have p338 : 0 ≤ (0 : Int) := (by omega); have q338 : 0 < (t334.length : Int) := of_decide_eq_true (by first | (with_reducible assumption) | assumption); obtain ⟨ad338, e338, hx338_0⟩ := Kd.at_int (Kd.V_reads' HO336.out).2.2 0 p338 q338; cases e338; have qi338 : (0 < t334.length) = True := eq_true (by omega); (try rw [show ((0 : Int)).toNat = 0 from rfl] at hx338_0); (try rw [Addr.add_zero'] at hx338_0); replace p338 := eq_true p338; replace q338 := eq_true q338; have q43 : (1 : Int) ≤ ((t334.length : Int) : Int) := of_decide_eq_true (by first | (with_reducible assumption) | assumption); obtain ⟨i043, hi043, _, hsz43, _⟩ := info_parts info5; have hroom43 : t334.length ≤ co42 := (Kd.V_reads' HO336.out).2.1; have hC43 : Kd.F (Kd.int .u8) _ _ (some ad338) t334.length t334 := (Kd.V_at (base := w.heap.size) HO336.out).2.2; have hcut43 := cut_from (P := Try.prog) 24 5 .i64 Try.underlying24 hi043 1 hsz43 (some ad338) t334.length co42 1 (by omega) q43; have hr43 := Kd.F_cut (m := (1 : Int).toNat) (c := co42) hC43 (by omega) hroom43; obtain ⟨A43, hA43⟩ : ∃ A1, A1 = (if co42 = (1 : Int).toNat then (some ad338) else ((some ad338) : Option Addr).map (·.add ((1 : Int).toNat * 1))) := ⟨_, rfl⟩; obtain ⟨c43, hc43⟩ : ∃ c1, c1 = co42 - (1 : Int).toNat := ⟨_, rfl⟩; have hy43 : y339.length = t334.length - (1 : Int).toNat := (by rw [Ny339.out, List.length_drop] <;> omega); rw [show (t334).drop (1 : Int).toNat = y339 from Ny339.out.symm] at hr43; replace hr43 : Kd.F (Kd.int .u8) _ _ A43 y339.length y339 := (by rw [hA43]; exact hr43); rw [← hy43, ← hA43, ← hc43] at hcut43; have HO343 := Aside0.mk (show Kd.V (Kd.int .u8) 5 _ w.heap.size _ (.slice A43 y339.length c43) y339 from Kd.V_mk (by rw [hy43, hc43]; exact Nat.sub_le_sub_right hroom43 _) hr43); have HC343 := Aside0.mk (show y339.length ≤ c43 from by rw [hy43, hc43]; exact Nat.sub_le_sub_right hroom43 _); clear hr43 hC43 hroom43 hi043 hsz43 hc43; have KY43 := Aside0.mk hy43; have KA43 := Aside0.mk hA43; clear hy43 hA43; replace q43 := eq_true q43) | (go_at_call 15; (with_reducible refine (winnowerref01_GetLen.calls _ _ y339 t344 t345 t346 _ ?side1 ?side2 A34.out).mono ?_); (case side1 => repeat (first | exact (Kd.V_reads' HO343.out).2.2 | (with_reducible refine Kd.C_alloc ?_ _) | (with_reducible refine Kd.C_drewN ?_ _) | (with_reducible refine Kd.C_drew ?_))); (case side2 => exact (Kd.V_reads' HO343.out).2.1); rintro e w' ⟨rfl, ⟨nd, rfl⟩⟩; (try first | exact ⟨rfl, _, World.drewN_drewN _ _ _⟩ | exact ⟨rfl, _, Eq.trans (World.drewN_drewN _ _ _) (congrArg (World.drewN _) (Nat.add_assoc _ _ _))⟩))); try go_wp2_with (first | (go_at_call 10; (with_reducible refine (runs_Encode.calls _ _ l0 t334 t337 _ ?side1 ?side2 A21.out).mono ?_); (case side1 => repeat (first | exact (Kd.C_below HR0.out HB.out) | (with_reducible refine Kd.C_alloc ?_ _) | (with_reducible refine Kd.C_drewN ?_ _) | (with_reducible refine Kd.C_drew ?_))); (case side2 => exact HC0.out); rintro e w41 ⟨v335, rfl, ho0, hb⟩; have n0_ := Aside0.mk (Kd.R_below (by (with_reducible repeat (first | apply Kd.R_alloc | apply Kd.R_drewN | apply Kd.R_drew)); exact HO_4.out) hb); have n1_ := Aside0.mk (Kd.V_lower (Kd.V_mono (ok' := fun k_ => some k_ ≠ (.slice Ao40 t326.length co40 : Value).ownBlock) ho0 (fun k_ hk_ => (Kd.fresh' (Kd.R_lt (by (with_reducible repeat (first | apply Kd.R_alloc | apply Kd.R_drewN | apply Kd.R_drew)); exact HO_4.out)) k_ hk_))) (below_size (by repeat (first | (with_reducible first | exact HB.out | apply below_alloc | apply pw_below_drewN | apply below_drew1) | exact HB.out)))); have n2_ := Aside0.mk (below_step (by repeat (first | (with_reducible first | exact HB.out | apply below_alloc | apply pw_below_drewN | apply below_drew1) | exact HB.out)) hb); clear HO_4; clear HB; have HO_4 := n0_; have HO336 := n1_; have HB := n2_; clear n0_ n1_ n2_; (try clear hb); (try clear hb2); (try clear hk); (try clear hi); (try clear ho0); obtain ⟨Ao42, co42, eo42⟩ := Kd.V_slice HO336.out; subst eo42; have p338 : 0 ≤ (0 : Int) := (by omega); have q338 : 0 < (t334.length : Int) := of_decide_eq_true (by first | (with_reducible assumption) | assumption); obtain ⟨ad338, e338, hx338_0⟩ := Kd.at_int (Kd.V_reads' HO336.out).2.2 0 p338 q338; cases e338; have qi338 : (0 < t334.length) = True := eq_true (by omega); (try rw [show ((0 : Int)).toNat = 0 from rfl] at hx338_0); (try rw [Addr.add_zero'] at hx338_0); replace p338 := eq_true p338; replace q338 := eq_true q338; have q43 : (1 : Int) ≤ ((t334.length : Int) : Int) := of_decide_eq_true (by first | (with_reducible assumption) | assumption); obtain ⟨i043, hi043, _, hsz43, _⟩ := info_parts info5; have hroom43 : t334.length ≤ co42 := (Kd.V_reads' HO336.out).2.1; have hC43 : Kd.F (Kd.int .u8) _ _ (some ad338) t334.length t334 := (Kd.V_at (base := w.heap.size) HO336.out).2.2; have hcut43 := cut_from (P := Try.prog) 24 5 .i64 Try.underlying24 hi043 1 hsz43 (some ad338) t334.length co42 1 (by omega) q43; have hr43 := Kd.F_cut (m := (1 : Int).toNat) (c := co42) hC43 (by omega) hroom43; obtain ⟨A43, hA43⟩ : ∃ A1, A1 = (if co42 = (1 : Int).toNat then (some ad338) else ((some ad338) : Option Addr).map (·.add ((1 : Int).toNat * 1))) := ⟨_, rfl⟩; obtain ⟨c43, hc43⟩ : ∃ c1, c1 = co42 - (1 : Int).toNat := ⟨_, rfl⟩; have hy43 : y339.length = t334.length - (1 : Int).toNat := (by rw [Ny339.out, List.length_drop] <;> omega); rw [show (t334).drop (1 : Int).toNat = y339 from Ny339.out.symm] at hr43; replace hr43 : Kd.F (Kd.int .u8) _ _ A43 y339.length y339 := (by rw [hA43]; exact hr43); rw [← hy43, ← hA43, ← hc43] at hcut43; have HO343 := Aside0.mk (show Kd.V (Kd.int .u8) 5 _ w.heap.size _ (.slice A43 y339.length c43) y339 from Kd.V_mk (by rw [hy43, hc43]; exact Nat.sub_le_sub_right hroom43 _) hr43); have HC343 := Aside0.mk (show y339.length ≤ c43 from by rw [hy43, hc43]; exact Nat.sub_le_sub_right hroom43 _); clear hr43 hC43 hroom43 hi043 hsz43 hc43; have KY43 := Aside0.mk hy43; have KA43 := Aside0.mk hA43; clear hy43 hA43; replace q43 := eq_true q43) | (go_at_call 15; (with_reducible refine (winnowerref01_GetLen.calls _ _ y339 t344 t345 t346 _ ?side1 ?side2 A34.out).mono ?_); (case side1 => repeat (first | exact (Kd.V_reads' HO343.out).2.2 | (with_reducible refine Kd.C_alloc ?_ _) | (with_reducible refine Kd.C_drewN ?_ _) | (with_reducible refine Kd.C_drew ?_))); (case side2 => exact (Kd.V_reads' HO343.out).2.1); rintro e w' ⟨rfl, ⟨nd, rfl⟩⟩; (try first | exact ⟨rfl, _, World.drewN_drewN _ _ _⟩ | exact ⟨rfl, _, Eq.trans (World.drewN_drewN _ _ _) (congrArg (World.drewN _) (Nat.add_assoc _ _ _))⟩))))
                            go_ret
                            exact ⟨by first | rfl | (simp [errW_none, errW_some] <;> rfl) | (refine congrArg (fun b_ : Bool => Ending.returned (Value.bool b_)) ?_; simp; done) | (simp [*, errW_none, errW_some] <;> rfl), by repeat (first | (with_reducible first | exact HB.out | apply below_alloc | apply pw_below_drewN | apply below_drew1) | exact HB.out)⟩
                        · rw [if_neg c33] at H
                          exact absurd H (by simp)
                      · rw [if_neg c32] at H
                        have c32b0 : (x5_2 == (l0.length : Int)) = false := beq_eq_false_iff_ne.mpr c32
                        have c32b1 : (x5_2 != (l0.length : Int)) = true := bne_iff_ne.mpr c32
                        obtain rfl := Option.some.inj H
                        obtain ⟨Ao44, co44, eo44⟩ := Kd.R_slice HO_4.out
                        subst eo44
                        go_wp2_with (first | (go_at_call 10; (with_reducible refine (runs_Encode.calls _ _ l0 t334 t337 _ ?side1 ?side2 A21.out).mono ?_); (case side1 => repeat (first | exact (Kd.C_below HR0.out HB.out) | (with_reducible refine Kd.C_alloc ?_ _) | (with_reducible refine Kd.C_drewN ?_ _) | (with_reducible refine Kd.C_drew ?_))); (case side2 => exact HC0.out); rintro e w45 ⟨v335, rfl, ho0, hb⟩; have n0_ := Aside0.mk (Kd.R_below (by (with_reducible repeat (first | apply Kd.R_alloc | apply Kd.R_drewN | apply Kd.R_drew)); exact HO_4.out) hb); have n1_ := Aside0.mk (Kd.V_lower (Kd.V_mono (ok' := fun k_ => some k_ ≠ (.slice Ao44 t326.length co44 : Value).ownBlock) ho0 (fun k_ hk_ => (Kd.fresh' (Kd.R_lt (by (with_reducible repeat (first | apply Kd.R_alloc | apply Kd.R_drewN | apply Kd.R_drew)); exact HO_4.out)) k_ hk_))) (below_size (by repeat (first | (with_reducible first | exact HB.out | apply below_alloc | apply pw_below_drewN | apply below_drew1) | exact HB.out)))); have n2_ := Aside0.mk (below_step (by repeat (first | (with_reducible first | exact HB.out | apply below_alloc | apply pw_below_drewN | apply below_drew1) | exact HB.out)) hb); clear HO_4; clear HB; have HO_4 := n0_; have HO336 := n1_; have HB := n2_; clear n0_ n1_ n2_; (try clear hb); (try clear hb2); (try clear hk); (try clear hi); (try clear ho0); obtain ⟨Ao46, co46, eo46⟩ := Kd.V_slice HO336.out; subst eo46; have p338 : 0 ≤ (0 : Int) := (by omega); have q338 : 0 < (t334.length : Int) := of_decide_eq_true (by first | (with_reducible assumption) | assumption); obtain ⟨ad338, e338, hx338_0⟩ := Kd.at_int (Kd.V_reads' HO336.out).2.2 0 p338 q338; cases e338; have qi338 : (0 < t334.length) = True := eq_true (by omega); (try rw [show ((0 : Int)).toNat = 0 from rfl] at hx338_0); (try rw [Addr.add_zero'] at hx338_0); replace p338 := eq_true p338; replace q338 := eq_true q338))
                        repeat (go_quiet (first | (go_at_call 10; (with_reducible refine (runs_Encode.calls _ _ l0 t334 t337 _ ?side1 ?side2 A21.out).mono ?_); (case side1 => repeat (first | exact (Kd.C_below HR0.out HB.out) | (with_reducible refine Kd.C_alloc ?_ _) | (with_reducible refine Kd.C_drewN ?_ _) | (with_reducible refine Kd.C_drew ?_))); (case side2 => exact HC0.out); rintro e w45 ⟨v335, rfl, ho0, hb⟩; have n0_ := Aside0.mk (Kd.R_below (by (with_reducible repeat (first | apply Kd.R_alloc | apply Kd.R_drewN | apply Kd.R_drew)); exact HO_4.out) hb); have n1_ := Aside0.mk (Kd.V_lower (Kd.V_mono (ok' := fun k_ => some k_ ≠ (.slice Ao44 t326.length co44 : Value).ownBlock) ho0 (fun k_ hk_ => (Kd.fresh' (Kd.R_lt (by (with_reducible repeat (first | apply Kd.R_alloc | apply Kd.R_drewN | apply Kd.R_drew)); exact HO_4.out)) k_ hk_))) (below_size (by repeat (first | (with_reducible first | exact HB.out | apply below_alloc | apply pw_below_drewN | apply below_drew1) | exact HB.out)))); have n2_ := Aside0.mk (below_step (by repeat (first | (with_reducible first | exact HB.out | apply below_alloc | apply pw_below_drewN | apply below_drew1) | exact HB.out)) hb); clear HO_4; clear HB; have HO_4 := n0_; have HO336 := n1_; have HB := n2_; clear n0_ n1_ n2_; (try clear hb); (try clear hb2); (try clear hk); (try clear hi); (try clear ho0); obtain ⟨Ao46, co46, eo46⟩ := Kd.V_slice HO336.out; subst eo46; have p338 : 0 ≤ (0 : Int) := (by omega); have q338 : 0 < (t334.length : Int) := of_decide_eq_true (by first | (with_reducible assumption) | assumption); obtain ⟨ad338, e338, hx338_0⟩ := Kd.at_int (Kd.V_reads' HO336.out).2.2 0 p338 q338; cases e338; have qi338 : (0 < t334.length) = True := eq_true (by omega); (try rw [show ((0 : Int)).toNat = 0 from rfl] at hx338_0); (try rw [Addr.add_zero'] at hx338_0); replace p338 := eq_true p338; replace q338 := eq_true q338)); try go_wp2_with (first | (go_at_call 10; (with_reducible refine (runs_Encode.calls _ _ l0 t334 t337 _ ?side1 ?side2 A21.out).mono ?_); (case side1 => repeat (first | exact (Kd.C_below HR0.out HB.out) | (with_reducible refine Kd.C_alloc ?_ _) | (with_reducible refine Kd.C_drewN ?_ _) | (with_reducible refine Kd.C_drew ?_))); (case side2 => exact HC0.out); rintro e w45 ⟨v335, rfl, ho0, hb⟩; have n0_ := Aside0.mk (Kd.R_below (by (with_reducible repeat (first | apply Kd.R_alloc | apply Kd.R_drewN | apply Kd.R_drew)); exact HO_4.out) hb); have n1_ := Aside0.mk (Kd.V_lower (Kd.V_mono (ok' := fun k_ => some k_ ≠ (.slice Ao44 t326.length co44 : Value).ownBlock) ho0 (fun k_ hk_ => (Kd.fresh' (Kd.R_lt (by (with_reducible repeat (first | apply Kd.R_alloc | apply Kd.R_drewN | apply Kd.R_drew)); exact HO_4.out)) k_ hk_))) (below_size (by repeat (first | (with_reducible first | exact HB.out | apply below_alloc | apply pw_below_drewN | apply below_drew1) | exact HB.out)))); have n2_ := Aside0.mk (below_step (by repeat (first | (with_reducible first | exact HB.out | apply below_alloc | apply pw_below_drewN | apply below_drew1) | exact HB.out)) hb); clear HO_4; clear HB; have HO_4 := n0_; have HO336 := n1_; have HB := n2_; clear n0_ n1_ n2_; (try clear hb); (try clear hb2); (try clear hk); (try clear hi); (try clear ho0); obtain ⟨Ao46, co46, eo46⟩ := Kd.V_slice HO336.out; subst eo46; have p338 : 0 ≤ (0 : Int) := (by omega); have q338 : 0 < (t334.length : Int) := of_decide_eq_true (by first | (with_reducible assumption) | assumption); obtain ⟨ad338, e338, hx338_0⟩ := Kd.at_int (Kd.V_reads' HO336.out).2.2 0 p338 q338; cases e338; have qi338 : (0 < t334.length) = True := eq_true (by omega); (try rw [show ((0 : Int)).toNat = 0 from rfl] at hx338_0); (try rw [Addr.add_zero'] at hx338_0); replace p338 := eq_true p338; replace q338 := eq_true q338)))
                        go_ret
                        exact ⟨by first | rfl | (simp [errW_none, errW_some] <;> rfl) | (refine congrArg (fun b_ : Bool => Ending.returned (Value.bool b_)) ?_; simp; done) | (simp [*, errW_none, errW_some] <;> rfl), by repeat (first | (with_reducible first | exact HB.out | apply below_alloc | apply pw_below_drewN | apply below_drew1) | exact HB.out)⟩
                  · rw [if_neg c27] at H
                    exact absurd H (by simp)
              · rw [if_neg c22] at H
                have c22b0 : (t337 == 0) = false := beq_eq_false_iff_ne.mpr c22
                have c22b1 : (t337 != 0) = true := bne_iff_ne.mpr c22
                obtain rfl := Option.some.inj H
                obtain ⟨Ao47, co47, eo47⟩ := Kd.R_slice HO_4.out
                subst eo47
                go_wp2_with (first | (go_at_call 10; (with_reducible refine (runs_Encode.calls _ _ l0 t334 t337 _ ?side1 ?side2 A21.out).mono ?_); (case side1 => repeat (first | exact (Kd.C_below HR0.out HB.out) | (with_reducible refine Kd.C_alloc ?_ _) | (with_reducible refine Kd.C_drewN ?_ _) | (with_reducible refine Kd.C_drew ?_))); (case side2 => exact HC0.out); rintro e w48 ⟨v335, rfl, ho0, hb⟩; have n0_ := Aside0.mk (Kd.R_below (by (with_reducible repeat (first | apply Kd.R_alloc | apply Kd.R_drewN | apply Kd.R_drew)); exact HO_4.out) hb); have n1_ := Aside0.mk (Kd.V_lower (Kd.V_mono (ok' := fun k_ => some k_ ≠ (.slice Ao47 t326.length co47 : Value).ownBlock) ho0 (fun k_ hk_ => (Kd.fresh' (Kd.R_lt (by (with_reducible repeat (first | apply Kd.R_alloc | apply Kd.R_drewN | apply Kd.R_drew)); exact HO_4.out)) k_ hk_))) (below_size (by repeat (first | (with_reducible first | exact HB.out | apply below_alloc | apply pw_below_drewN | apply below_drew1) | exact HB.out)))); have n2_ := Aside0.mk (below_step (by repeat (first | (with_reducible first | exact HB.out | apply below_alloc | apply pw_below_drewN | apply below_drew1) | exact HB.out)) hb); clear HO_4; clear HB; have HO_4 := n0_; have HO336 := n1_; have HB := n2_; clear n0_ n1_ n2_; (try clear hb); (try clear hb2); (try clear hk); (try clear hi); (try clear ho0)))
                repeat (go_quiet (first | (go_at_call 10; (with_reducible refine (runs_Encode.calls _ _ l0 t334 t337 _ ?side1 ?side2 A21.out).mono ?_); (case side1 => repeat (first | exact (Kd.C_below HR0.out HB.out) | (with_reducible refine Kd.C_alloc ?_ _) | (with_reducible refine Kd.C_drewN ?_ _) | (with_reducible refine Kd.C_drew ?_))); (case side2 => exact HC0.out); rintro e w48 ⟨v335, rfl, ho0, hb⟩; have n0_ := Aside0.mk (Kd.R_below (by (with_reducible repeat (first | apply Kd.R_alloc | apply Kd.R_drewN | apply Kd.R_drew)); exact HO_4.out) hb); have n1_ := Aside0.mk (Kd.V_lower (Kd.V_mono (ok' := fun k_ => some k_ ≠ (.slice Ao47 t326.length co47 : Value).ownBlock) ho0 (fun k_ hk_ => (Kd.fresh' (Kd.R_lt (by (with_reducible repeat (first | apply Kd.R_alloc | apply Kd.R_drewN | apply Kd.R_drew)); exact HO_4.out)) k_ hk_))) (below_size (by repeat (first | (with_reducible first | exact HB.out | apply below_alloc | apply pw_below_drewN | apply below_drew1) | exact HB.out)))); have n2_ := Aside0.mk (below_step (by repeat (first | (with_reducible first | exact HB.out | apply below_alloc | apply pw_below_drewN | apply below_drew1) | exact HB.out)) hb); clear HO_4; clear HB; have HO_4 := n0_; have HO336 := n1_; have HB := n2_; clear n0_ n1_ n2_; (try clear hb); (try clear hb2); (try clear hk); (try clear hi); (try clear ho0))); try go_wp2_with (first | (go_at_call 10; (with_reducible refine (runs_Encode.calls _ _ l0 t334 t337 _ ?side1 ?side2 A21.out).mono ?_); (case side1 => repeat (first | exact (Kd.C_below HR0.out HB.out) | (with_reducible refine Kd.C_alloc ?_ _) | (with_reducible refine Kd.C_drewN ?_ _) | (with_reducible refine Kd.C_drew ?_))); (case side2 => exact HC0.out); rintro e w48 ⟨v335, rfl, ho0, hb⟩; have n0_ := Aside0.mk (Kd.R_below (by (with_reducible repeat (first | apply Kd.R_alloc | apply Kd.R_drewN | apply Kd.R_drew)); exact HO_4.out) hb); have n1_ := Aside0.mk (Kd.V_lower (Kd.V_mono (ok' := fun k_ => some k_ ≠ (.slice Ao47 t326.length co47 : Value).ownBlock) ho0 (fun k_ hk_ => (Kd.fresh' (Kd.R_lt (by (with_reducible repeat (first | apply Kd.R_alloc | apply Kd.R_drewN | apply Kd.R_drew)); exact HO_4.out)) k_ hk_))) (below_size (by repeat (first | (with_reducible first | exact HB.out | apply below_alloc | apply pw_below_drewN | apply below_drew1) | exact HB.out)))); have n2_ := Aside0.mk (below_step (by repeat (first | (with_reducible first | exact HB.out | apply below_alloc | apply pw_below_drewN | apply below_drew1) | exact HB.out)) hb); clear HO_4; clear HB; have HO_4 := n0_; have HO336 := n1_; have HB := n2_; clear n0_ n1_ n2_; (try clear hb); (try clear hb2); (try clear hk); (try clear hi); (try clear ho0))))
                go_ret
                exact ⟨by first | rfl | (simp [errW_none, errW_some] <;> rfl) | (refine congrArg (fun b_ : Bool => Ending.returned (Value.bool b_)) ?_; simp; done) | (simp [*, errW_none, errW_some] <;> rfl), by repeat (first | (with_reducible first | exact HB.out | apply below_alloc | apply pw_below_drewN | apply below_drew1) | exact HB.out)⟩

/-- THE ONE PURE STATEMENT of winnowerlaw03_RunsFew: yours. -/
def winnowerlaw03_RunsFew.Pure : Prop := ∀ (l0 : List Int), l0.length ≤ maxLen → l0.length * 8 ≤ 140737488351232 → (∀ x ∈ l0, (Lit.int .i64 x).wf = true) → ∃ k, winnowerlaw03_RunsFew.f k l0 = some true
theorem winnowerlaw03_RunsFew.walk (P : winnowerlaw03_RunsFew.Pure) (a0 : Option Addr) (len0 cap0 : Nat) (z0 : List Int) (w : World) (w0 : (a0 = none ∧ len0 = 0 ∧ cap0 = 0 ∧ z0 = []) ∨ ∃ x, a0 = some x ∧ len0 ≤ cap0 ∧ cap0 ≤ maxLen ∧ z0.length = cap0 ∧ (∀ i, i < z0.length → w.cell? (x.add i) = some (.int .i64 (z0.getD i 0))) ∧ ∀ n ∈ z0, (Lit.int .i64 n).wf = true) (y0 : len0 * 8 ≤ 140737488351232) :
    Calls Try.prog 5 #[.slice a0 len0 cap0] w fun e w' => e = .returned (.bool true) ∧ Below w.heap.size w w' := by
  obtain ⟨l0, rfl, hr0, hm0, hw0, hc0⟩ := ReadsInt.ofRowC w0
  obtain ⟨k, h⟩ := P l0 hm0 y0 hw0
  refine (winnowerlaw03_RunsFew.calls k _ _ l0 true w (Kd.C_of_reads (d := (0 : Int)) (h1 := fun _ => rfl) hr0) hc0 h).mono ?_
  rintro e w' ⟨rfl, hd⟩
  exact ⟨rfl, hd⟩

/-! ### winnowerref03_Same: function 16 -/
def winnowerref03_Same.l0 : Nat → List (S35) → List (S35) → Int → Option (Bool)
  | 0, _, _, _ => none
  | k + 1, x0, x1, x5 => if x5 < (x0.length : Int) then (if 0 ≤ x5 then (if x5 < (x1.length : Int) then (if (!(((rd_T35 x0 x5).f0) == ((rd_T35 x1 x5).f0)) || (!(((rd_T35 x0 x5).f1) == ((rd_T35 x1 x5).f1)))) = true then (some false) else (winnowerref03_Same.l0 k x0 x1 (wrap64 (x5 + 1)))) else (none)) else (none)) else (some true)
def winnowerref03_Same.f (k : Nat) (l0 : List (S35)) (l1 : List (S35)) : Option (Bool) := if (l0.length : Int) = (l1.length : Int) then (winnowerref03_Same.l0 k l0 l1 0) else (some false)
theorem winnowerref03_Same.mono_l : ∀ k, (∀ y0 y1 y2, LeO (winnowerref03_Same.l0 k y0 y1 y2) (winnowerref03_Same.l0 (k + 1) y0 y1 y2))
  | 0 => fun _ _ _ r h => by simp [winnowerref03_Same.l0] at h
  | k + 1 => by
    have ih0 := winnowerref03_Same.mono_l k
    · intro y0 y1 y2
      unfold winnowerref03_Same.l0
      repeat' first
      | (with_reducible exact ih0 _ _ _)
      | (with_reducible exact LeO.refl _)
      | (with_reducible exact LeO.none _)
      | (with_reducible refine LeO.ite ?_ ?_)
      | (with_reducible refine LeO.bind ?_ (fun _ => ?_))
      | exact ih0 _ _ _
      | exact LeO.none _
      | refine LeO.ite ?_ ?_
      | refine LeO.bind ?_ (fun _ => ?_)
theorem winnowerref03_Same.mono : ∀ a0 a1 k, LeO (winnowerref03_Same.f k a0 a1) (winnowerref03_Same.f (k + 1) a0 a1) := by
  intro a0 a1 k
  have ih0 := winnowerref03_Same.mono_l k
  unfold winnowerref03_Same.f
  repeat' first
      | (with_reducible exact ih0 _ _ _)
      | (with_reducible exact LeO.refl _)
      | (with_reducible exact LeO.none _)
      | (with_reducible refine LeO.ite ?_ ?_)
      | (with_reducible refine LeO.bind ?_ (fun _ => ?_))
      | exact ih0 _ _ _
      | exact LeO.none _
      | refine LeO.ite ?_ ?_
      | refine LeO.bind ?_ (fun _ => ?_)
set_option maxHeartbeats 8000000 in
set_option maxRecDepth 100000 in
theorem winnowerref03_Same.calls (k : Nat) (A0 : Option Addr) (c0 : Nat) (l0 : List (S35)) (A1 : Option Addr) (c1 : Nat) (l1 : List (S35)) (r : Bool) (w : World) (hr0 : Kd.C k35 w A0 l0.length l0) (hc0 : l0.length ≤ c0) (hr1 : Kd.C k35 w A1 l1.length l1) (hc1 : l1.length ≤ c1) (h : winnowerref03_Same.f k l0 l1 = some r) :
    Calls Try.prog 16 #[.slice A0 l0.length c0, .slice A1 l1.length c1] w fun e w' => e = .returned (.bool r) ∧ Drawn0 w w' := by
  have hu35 := Try.underlying35
  have HR0 := Aside0.mk hr0
  have HC0 := Aside0.mk hc0
  clear hr0 hc0
  have HR1 := Aside0.mk hr1
  have HC1 := Aside0.mk hc1
  clear hr1 hc1
  have H : (if (l0.length : Int) = (l1.length : Int) then (winnowerref03_Same.l0 k l0 l1 0) else (some false)) = some r := h
  clear h
  by_cases c3 : (l0.length : Int) = (l1.length : Int)
  · rw [if_pos c3] at H
    have c3b0 : ((l0.length : Int) == (l1.length : Int)) = true := beq_iff_eq.mpr c3
    have c3b1 : ((l0.length : Int) != (l1.length : Int)) = false := bne_eq_false_iff_eq.mpr c3
    have c3b2 : (l0.length == l1.length) = true := by first | simpa using c3 | (simp at c3 ⊢; omega)
    clear c3
    have H' := Aside0.mk H
    clear H
    go_enter Try.func16, Try.ntmps16
    go_wp2
    repeat (go_quiet (fail); try go_wp2)
    go_loopg [5] k (fun kq v5 w' => ∃ (x5_1 : Int), v5 = .int .i64 x5_1 ∧ Aside0 (winnowerref03_Same.l0 kq l0 l1 x5_1 = some r) ∧ Aside0 (kq ≤ k) ∧ Drawn0 w w')
    case atStart => exact ⟨(0), (by first | rfl | (simp; done) | (simp [*]; done)), H', ⟨Nat.le_refl _⟩, by repeat (first | exact Drawn0.refl _ | apply Drawn0.step)⟩
    case round =>
      clear H'
      try clear c1
      try clear p2
      try clear c3
      try clear c3b0
      try clear c3b1
      try clear c3b2
      obtain ⟨x5_1, rfl, HA, HK1, ⟨m1, rfl⟩⟩ := hrel
      cases gk with
      | zero => exact absurd HA.out (by simp [winnowerref03_Same.l0])
      | succ k1 =>
        have H := HA.out
        clear HA
        simp only [winnowerref03_Same.l0] at H
        by_cases c4 : x5_1 < (l0.length : Int)
        · rw [if_pos c4] at H
          have c4b0 : decide (x5_1 < (l0.length : Int)) = true := decide_eq_true c4
          clear c4
          by_cases c5 : 0 ≤ x5_1
          · rw [if_pos c5] at H
            have c5b0 : decide (0 ≤ x5_1) = true := decide_eq_true c5
            clear c5
            by_cases c6 : x5_1 < (l1.length : Int)
            · rw [if_pos c6] at H
              have c6b0 : decide (x5_1 < (l1.length : Int)) = true := decide_eq_true c6
              clear c6
              by_cases c7 : (!(((rd_T35 l0 x5_1).f0) == ((rd_T35 l1 x5_1).f0)) || (!(((rd_T35 l0 x5_1).f1) == ((rd_T35 l1 x5_1).f1)))) = true
              · rw [if_pos c7] at H
                have c7b0 : (!(((rd_T35 l0 x5_1).f0) == ((rd_T35 l1 x5_1).f0)) || (!(((rd_T35 l0 x5_1).f1) == ((rd_T35 l1 x5_1).f1)))) = true := c7
                clear c7
                obtain rfl := Option.some.inj H
                have p347 : 0 ≤ (x5_1 : Int) := of_decide_eq_true (by first | (with_reducible assumption) | assumption)
                have q347 : x5_1 < (l0.length : Int) := of_decide_eq_true (by first | (with_reducible assumption) | assumption)
                obtain ⟨ad347, e347, hx347_0, hx347_1⟩ := at_T35 HR0.out x5_1 p347 q347
                cases e347
                replace p347 := eq_true p347
                replace q347 := eq_true q347
                have p348 : 0 ≤ (x5_1 : Int) := of_decide_eq_true (by first | (with_reducible assumption) | assumption)
                have q348 : x5_1 < (l1.length : Int) := of_decide_eq_true (by first | (with_reducible assumption) | assumption)
                obtain ⟨ad348, e348, hx348_0, hx348_1⟩ := at_T35 HR1.out x5_1 p348 q348
                cases e348
                replace p348 := eq_true p348
                replace q348 := eq_true q348
                go_wp2
                repeat (go_quiet (fail); try go_wp2)
                go_ret
                exact ⟨by first | rfl | (simp; done) | (simp [*]; done), by repeat (first | exact Drawn0.refl _ | apply Drawn0.step)⟩
              · rw [if_neg c7] at H
                have c7b0 : (!(((rd_T35 l0 x5_1).f0) == ((rd_T35 l1 x5_1).f0)) || (!(((rd_T35 l0 x5_1).f1) == ((rd_T35 l1 x5_1).f1)))) = false := by simpa using c7
                clear c7
                have H' := Aside0.mk H
                clear H
                have p347 : 0 ≤ (x5_1 : Int) := of_decide_eq_true (by first | (with_reducible assumption) | assumption)
                have q347 : x5_1 < (l0.length : Int) := of_decide_eq_true (by first | (with_reducible assumption) | assumption)
                obtain ⟨ad347, e347, hx347_0, hx347_1⟩ := at_T35 HR0.out x5_1 p347 q347
                cases e347
                replace p347 := eq_true p347
                replace q347 := eq_true q347
                have p348 : 0 ≤ (x5_1 : Int) := of_decide_eq_true (by first | (with_reducible assumption) | assumption)
                have q348 : x5_1 < (l1.length : Int) := of_decide_eq_true (by first | (with_reducible assumption) | assumption)
                obtain ⟨ad348, e348, hx348_0, hx348_1⟩ := at_T35 HR1.out x5_1 p348 q348
                cases e348
                replace p348 := eq_true p348
                replace q348 := eq_true q348
                go_wp2
                repeat (go_quiet (fail); try go_wp2)
                go_roundg k1
                case measure => have := HK1.out; omega
                case rel => exact ⟨(wrap64 (x5_1 + 1)), (by first | rfl | (simp; done) | (simp [*]; done)), H', ⟨by have := HK1.out; omega⟩, by repeat (first | exact Drawn0.refl _ | apply Drawn0.step)⟩
            · rw [if_neg c6] at H
              exact absurd H (by simp)
          · rw [if_neg c5] at H
            exact absurd H (by simp)
        · rw [if_neg c4] at H
          have c4b0 : decide (x5_1 < (l0.length : Int)) = false := decide_eq_false c4
          clear c4
          obtain rfl := Option.some.inj H
          go_wp2
          repeat (go_quiet (fail); try go_wp2)
          go_ret
          exact ⟨by first | rfl | (simp; done) | (simp [*]; done), by repeat (first | exact Drawn0.refl _ | apply Drawn0.step)⟩
  · rw [if_neg c3] at H
    have c3b0 : ((l0.length : Int) == (l1.length : Int)) = false := beq_eq_false_iff_ne.mpr c3
    have c3b1 : ((l0.length : Int) != (l1.length : Int)) = true := bne_iff_ne.mpr c3
    have c3b2 : (l0.length == l1.length) = false := by first | simpa using c3 | (simp at c3 ⊢; omega)
    obtain rfl := Option.some.inj H
    go_enter Try.func16, Try.ntmps16
    go_wp2
    repeat (go_quiet (fail); try go_wp2)
    go_ret
    exact ⟨by first | rfl | (simp; done) | (simp [*]; done), by repeat (first | exact Drawn0.refl _ | apply Drawn0.step)⟩

end Go.Proofs.Ytnlfhjhdnompaaa.Q
