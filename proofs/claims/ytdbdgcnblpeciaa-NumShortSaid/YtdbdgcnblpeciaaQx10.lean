/- The machine side of laws, written by wip/tools/myprint.py (the printer's way, with functions proved by hand put in); Lean checks it. -/
import Derived.Test.YtdbdgcnblpeciaaQx0
import Derived.Test.YtdbdgcnblpeciaaQx2
import Derived.Test.YtdbdgcnblpeciaaQx5
import Derived.Test.YtdbdgcnblpeciaaQx7
import Derived.Test.YtdbdgcnblpeciaaQx8
import Derived.Test.YtdbdgcnblpeciaaQx9
namespace Go.Proofs.Ytdbdgcnblpeciaa.Q
open Go.RowKit Go.Proofs.YtdbdgcnblpeciaaW.PrintWords Go.Proofs.YtdbdgcnblpeciaaW.PrintLast Go.Proofs.YtdbdgcnblpeciaaW.PrintMore
attribute [local go_sem] max2_int min2_int max_two min_two max_three min_three max_four min_four   -- for this text's walks alone
set_option linter.unusedVariables false
set_option linter.unusedSimpArgs false

/-! ### winnowerref01_Put: function 13 -/
def winnowerref01_Put.f (a0 : Int) : Option (List Int) := if a0 < 0 then ((winnowerref01_digits.f (wrap64 (-(wrap64 (a0 + 1)))) 1).bind fun t151 => (some t151)) else ((winnowerref01_digits.f a0 0).bind fun t154 => (some t154))
set_option maxHeartbeats 8000000 in
set_option maxRecDepth 100000 in
theorem winnowerref01_Put.calls (a0 : Int) (r : List Int) (w : World) (h : winnowerref01_Put.f a0 = some r) :
    Calls Try.prog 13 #[.int .i64 a0] w fun e w' => ∃ v0_ : Value, e = .returned (v0_) ∧ Kd.R (Kd.int .u8) 5 w' w.heap.size (fun _ => True) v0_ r ∧ Below w.heap.size w w' := by
  have HB := Aside0.mk (Below.refl w.heap.size w)
  have H : (if a0 < 0 then ((winnowerref01_digits.f (wrap64 (-(wrap64 (a0 + 1)))) 1).bind fun t151 => (some t151)) else ((winnowerref01_digits.f a0 0).bind fun t154 => (some t154))) = some r := h
  clear h
  by_cases c2 : a0 < 0
  · rw [if_pos c2] at H
    have c2b0 : decide (a0 < 0) = true := decide_eq_true c2
    clear c2
    replace H := Option.bind_eq_some_iff.mp H
    obtain ⟨t151, A30, H⟩ := H
    replace H : (some t151) = some r := H
    have A3 := Aside0.mk A30
    clear A30
    obtain rfl := Option.some.inj H
    go_enter Try.func13, Try.ntmps13
    go_wp2_with (first | ((with_reducible refine gate_callee (f := 20) rfl ?_); refine goesL_ (some 8) rfl rfl Try.func20 (by kernel_rfl) rfl #[.int .i64 (wrap64 (-(wrap64 (a0 + 1)))), .int .i64 1] rfl (by (try simp only [List.map_toArray, List.map_cons, List.map_nil]); first | done | rfl | (simp only [List.length_drop, List.length_take]; rfl)) ?_; (with_reducible refine (winnowerref01_digits.calls (wrap64 (-(wrap64 (a0 + 1)))) 1 t151 _ A3.out).mono ?_); rintro e w4 ⟨v152, rfl, ho0, hb⟩; refine ⟨_, rfl, ?_⟩; have n0_ := Aside0.mk (Kd.R_lower ho0 (below_size (by repeat (first | (with_reducible first | exact HB.out | apply below_alloc | apply pw_below_drewN | apply below_drew1) | exact HB.out)))); have n1_ := Aside0.mk (below_step (by repeat (first | (with_reducible first | exact HB.out | apply below_alloc | apply pw_below_drewN | apply below_drew1) | exact HB.out)) hb); clear HB; have HO153 := n0_; have HB := n1_; clear n0_ n1_; (try clear hb); (try clear hb2); (try clear hk); (try clear hi); (try clear ho0)))
    go_ret
    exact ⟨_, by first | rfl | (simp [errW_none, errW_some] <;> rfl) | (simp [*, errW_none, errW_some] <;> rfl), by (with_reducible repeat (first | apply Kd.R_alloc | apply Kd.R_drewN | apply Kd.R_drew)); exact HO153.out, by repeat (first | (with_reducible first | exact HB.out | apply below_alloc | apply pw_below_drewN | apply below_drew1) | exact HB.out)⟩
  · rw [if_neg c2] at H
    have c2b0 : decide (a0 < 0) = false := decide_eq_false c2
    clear c2
    replace H := Option.bind_eq_some_iff.mp H
    obtain ⟨t154, A50, H⟩ := H
    replace H : (some t154) = some r := H
    have A5 := Aside0.mk A50
    clear A50
    obtain rfl := Option.some.inj H
    go_enter Try.func13, Try.ntmps13
    go_wp2_with (first | ((with_reducible refine gate_callee (f := 20) rfl ?_); refine goesL_ (some 10) rfl rfl Try.func20 (by kernel_rfl) rfl #[.int .i64 a0, .int .i64 0] rfl (by (try simp only [List.map_toArray, List.map_cons, List.map_nil]); first | done | rfl | (simp only [List.length_drop, List.length_take]; rfl)) ?_; (with_reducible refine (winnowerref01_digits.calls a0 0 t154 _ A5.out).mono ?_); rintro e w6 ⟨v155, rfl, ho0, hb⟩; refine ⟨_, rfl, ?_⟩; have n0_ := Aside0.mk (Kd.R_lower ho0 (below_size (by repeat (first | (with_reducible first | exact HB.out | apply below_alloc | apply pw_below_drewN | apply below_drew1) | exact HB.out)))); have n1_ := Aside0.mk (below_step (by repeat (first | (with_reducible first | exact HB.out | apply below_alloc | apply pw_below_drewN | apply below_drew1) | exact HB.out)) hb); clear HB; have HO156 := n0_; have HB := n1_; clear n0_ n1_; (try clear hb); (try clear hb2); (try clear hk); (try clear hi); (try clear ho0)))
    go_ret
    exact ⟨_, by first | rfl | (simp [errW_none, errW_some] <;> rfl) | (simp [*, errW_none, errW_some] <;> rfl), by (with_reducible repeat (first | apply Kd.R_alloc | apply Kd.R_drewN | apply Kd.R_drew)); exact HO156.out, by repeat (first | (with_reducible first | exact HB.out | apply below_alloc | apply pw_below_drewN | apply below_drew1) | exact HB.out)⟩

/-! ### winnowerref01_PutLen: function 14 -/
def winnowerref01_PutLen.f (a0 : Int) : Option (List Int) := if a0 < 0 then (some ([] : List Int)) else ((winnowerref01_digits.f (wrap64 (Int.tdiv a0 2)) (Int.tmod a0 2)).bind fun t157 => (some t157))
set_option maxHeartbeats 8000000 in
set_option maxRecDepth 100000 in
theorem winnowerref01_PutLen.calls (a0 : Int) (r : List Int) (w : World) (h : winnowerref01_PutLen.f a0 = some r) :
    Calls Try.prog 14 #[.int .i64 a0] w fun e w' => ∃ v0_ : Value, e = .returned (v0_) ∧ Kd.R (Kd.int .u8) 5 w' w.heap.size (fun _ => True) v0_ r ∧ Below w.heap.size w w' := by
  have HB := Aside0.mk (Below.refl w.heap.size w)
  have H : (if a0 < 0 then (some ([] : List Int)) else ((winnowerref01_digits.f (wrap64 (Int.tdiv a0 2)) (Int.tmod a0 2)).bind fun t157 => (some t157))) = some r := h
  clear h
  by_cases c2 : a0 < 0
  · rw [if_pos c2] at H
    have c2b0 : decide (a0 < 0) = true := decide_eq_true c2
    clear c2
    obtain rfl := Option.some.inj H
    go_enter Try.func14, Try.ntmps14
    go_wp2
    go_ret
    exact ⟨_, by first | rfl | (simp [errW_none, errW_some] <;> rfl) | (simp [*, errW_none, errW_some] <;> rfl), by first | exact Kd.R_nil _ _ _ _ _ | exact Kd.N_nil _ _ _ _ _ | exact Kd.V_nil _ _ _ _ _ | exact Kd.Q_nil _ _ _ _ _ | exact Kd.S_nil _ _ _ _ _, by repeat (first | (with_reducible first | exact HB.out | apply below_alloc | apply pw_below_drewN | apply below_drew1) | exact HB.out)⟩
  · rw [if_neg c2] at H
    have c2b0 : decide (a0 < 0) = false := decide_eq_false c2
    clear c2
    replace H := Option.bind_eq_some_iff.mp H
    obtain ⟨t157, A30, H⟩ := H
    replace H : (some t157) = some r := H
    have A3 := Aside0.mk A30
    clear A30
    obtain rfl := Option.some.inj H
    go_enter Try.func14, Try.ntmps14
    go_wp2_with (first | ((with_reducible refine gate_callee (f := 20) rfl ?_); refine goesL_ (some 9) rfl rfl Try.func20 (by kernel_rfl) rfl #[.int .i64 (wrap64 (Int.tdiv a0 2)), .int .i64 (Int.tmod a0 2)] rfl (by (try simp only [List.map_toArray, List.map_cons, List.map_nil]); first | done | rfl | (simp only [List.length_drop, List.length_take]; rfl)) ?_; (with_reducible refine (winnowerref01_digits.calls (wrap64 (Int.tdiv a0 2)) (Int.tmod a0 2) t157 _ A3.out).mono ?_); rintro e w4 ⟨v158, rfl, ho0, hb⟩; refine ⟨_, rfl, ?_⟩; have n0_ := Aside0.mk (Kd.R_lower ho0 (below_size (by repeat (first | (with_reducible first | exact HB.out | apply below_alloc | apply pw_below_drewN | apply below_drew1) | exact HB.out)))); have n1_ := Aside0.mk (below_step (by repeat (first | (with_reducible first | exact HB.out | apply below_alloc | apply pw_below_drewN | apply below_drew1) | exact HB.out)) hb); clear HB; have HO159 := n0_; have HB := n1_; clear n0_ n1_; (try clear hb); (try clear hb2); (try clear hk); (try clear hi); (try clear ho0)))
    go_ret
    exact ⟨_, by first | rfl | (simp [errW_none, errW_some] <;> rfl) | (simp [*, errW_none, errW_some] <;> rfl), by (with_reducible repeat (first | apply Kd.R_alloc | apply Kd.R_drewN | apply Kd.R_drew)); exact HO159.out, by repeat (first | (with_reducible first | exact HB.out | apply below_alloc | apply pw_below_drewN | apply below_drew1) | exact HB.out)⟩

-- NOT PRINTED: function 3 (winnowerlaw01_NumPuts)

/-! ### winnowerlaw01_NumRow: function 4 -/
mutual
def winnowerlaw01_NumRow.j0 : Nat → List Int → Bool → Bool → Option (Bool)
  | 0, _, _, _ => none
  | k + 1, x0, x3, x17 => if x17 = true then (some x3) else (winnowerlaw01_NumRow.l0 k x0 ([] : List Int) 0)
def winnowerlaw01_NumRow.l0 : Nat → List Int → List Int → Int → Option (Bool)
  | 0, _, _, _ => none
  | k + 1, x0, x4, x5 => if x5 < (x0.length : Int) then (if 0 ≤ x5 then ((num_Put.f x4 (rd x0 x5)).bind fun t180 => (winnowerlaw01_NumRow.l0 k x0 t180 (wrap64 (x5 + 1)))) else (none)) else (winnowerlaw01_NumRow.l1 k x0 x4 0)
def winnowerlaw01_NumRow.l1 : Nat → List Int → List Int → Int → Option (Bool)
  | 0, _, _, _ => none
  | k + 1, x0, x4, x6 => if x6 < (x0.length : Int) then ((num_Get.f x4).bind fun bt183 => (if bt183.2.2 = 0 then (if 0 ≤ x6 then (if bt183.1 = (rd x0 x6) then (if bt183.2.1 < 1 then (some false) else (if bt183.2.1 > (x4.length : Int) then (some false) else (if 0 ≤ bt183.2.1 then (if bt183.2.1 ≤ (x4.length : Int) then (winnowerlaw01_NumRow.l1 k x0 (x4.drop (bt183.2.1 : Int).toNat) (wrap64 (x6 + 1))) else (none)) else (none)))) else (some false)) else (none)) else (some false))) else (some ((x4.length : Int) == 0))
end
def winnowerlaw01_NumRow.f (k : Nat) (l0 : List Int) : Option (Bool) := (winnowerlaw01_awake.f).bind fun t178 => (if t178 = true then (winnowerlaw01_NumRow.j0 k l0 t178 (decide ((l0.length : Int) > 60))) else (winnowerlaw01_NumRow.j0 k l0 t178 true))
theorem winnowerlaw01_NumRow.mono_l : ∀ k, (∀ y0 y1 y2, LeO (winnowerlaw01_NumRow.j0 k y0 y1 y2) (winnowerlaw01_NumRow.j0 (k + 1) y0 y1 y2)) ∧ (∀ y0 y1 y2, LeO (winnowerlaw01_NumRow.l0 k y0 y1 y2) (winnowerlaw01_NumRow.l0 (k + 1) y0 y1 y2)) ∧ (∀ y0 y1 y2, LeO (winnowerlaw01_NumRow.l1 k y0 y1 y2) (winnowerlaw01_NumRow.l1 (k + 1) y0 y1 y2))
  | 0 => ⟨fun _ _ _ r h => by simp [winnowerlaw01_NumRow.j0] at h, fun _ _ _ r h => by simp [winnowerlaw01_NumRow.l0] at h, fun _ _ _ r h => by simp [winnowerlaw01_NumRow.l1] at h⟩
  | k + 1 => by
    obtain ⟨ih0, ih1, ih2⟩ := winnowerlaw01_NumRow.mono_l k
    refine ⟨?_, ?_, ?_⟩
    · intro y0 y1 y2
      unfold winnowerlaw01_NumRow.j0
      repeat' first
      | (with_reducible exact ih0 _ _ _)
      | (with_reducible exact ih1 _ _ _)
      | (with_reducible exact ih2 _ _ _)
      | (with_reducible exact LeO.refl _)
      | (with_reducible exact LeO.none _)
      | (with_reducible refine LeO.ite ?_ ?_)
      | (with_reducible refine LeO.bind ?_ (fun _ => ?_))
      | exact ih0 _ _ _
      | exact ih1 _ _ _
      | exact ih2 _ _ _
      | exact LeO.none _
      | refine LeO.ite ?_ ?_
      | refine LeO.bind ?_ (fun _ => ?_)
    · intro y0 y1 y2
      unfold winnowerlaw01_NumRow.l0
      repeat' first
      | (with_reducible exact ih0 _ _ _)
      | (with_reducible exact ih1 _ _ _)
      | (with_reducible exact ih2 _ _ _)
      | (with_reducible exact LeO.refl _)
      | (with_reducible exact LeO.none _)
      | (with_reducible refine LeO.ite ?_ ?_)
      | (with_reducible refine LeO.bind ?_ (fun _ => ?_))
      | exact ih0 _ _ _
      | exact ih1 _ _ _
      | exact ih2 _ _ _
      | exact LeO.none _
      | refine LeO.ite ?_ ?_
      | refine LeO.bind ?_ (fun _ => ?_)
    · intro y0 y1 y2
      unfold winnowerlaw01_NumRow.l1
      repeat' first
      | (with_reducible exact ih0 _ _ _)
      | (with_reducible exact ih1 _ _ _)
      | (with_reducible exact ih2 _ _ _)
      | (with_reducible exact LeO.refl _)
      | (with_reducible exact LeO.none _)
      | (with_reducible refine LeO.ite ?_ ?_)
      | (with_reducible refine LeO.bind ?_ (fun _ => ?_))
      | exact ih0 _ _ _
      | exact ih1 _ _ _
      | exact ih2 _ _ _
      | exact LeO.none _
      | refine LeO.ite ?_ ?_
      | refine LeO.bind ?_ (fun _ => ?_)
theorem winnowerlaw01_NumRow.mono : ∀ a0 k, LeO (winnowerlaw01_NumRow.f k a0) (winnowerlaw01_NumRow.f (k + 1) a0) := by
  intro a0 k
  obtain ⟨ih0, ih1, ih2⟩ := winnowerlaw01_NumRow.mono_l k
  unfold winnowerlaw01_NumRow.f
  repeat' first
      | (with_reducible exact ih0 _ _ _)
      | (with_reducible exact ih1 _ _ _)
      | (with_reducible exact ih2 _ _ _)
      | (with_reducible exact LeO.refl _)
      | (with_reducible exact LeO.none _)
      | (with_reducible refine LeO.ite ?_ ?_)
      | (with_reducible refine LeO.bind ?_ (fun _ => ?_))
      | exact ih0 _ _ _
      | exact ih1 _ _ _
      | exact ih2 _ _ _
      | exact LeO.none _
      | refine LeO.ite ?_ ?_
      | refine LeO.bind ?_ (fun _ => ?_)
set_option maxHeartbeats 8000000 in
set_option maxRecDepth 100000 in
theorem winnowerlaw01_NumRow.calls (k : Nat) (A0 : Option Addr) (c0 : Nat) (l0 : List Int) (r : Bool) (w : World) (hr0 : Kd.C (Kd.int .i64) w A0 l0.length l0) (hc0 : l0.length ≤ c0) (h : winnowerlaw01_NumRow.f k l0 = some r) :
    Calls Try.prog 4 #[.slice A0 l0.length c0] w fun e w' => e = .returned (.bool r) ∧ Below w.heap.size w w' := by
  have HR0 := Aside0.mk hr0
  have HC0 := Aside0.mk hc0
  clear hr0 hc0
  have HB := Aside0.mk (Below.refl w.heap.size w)
  have H : ((winnowerlaw01_awake.f).bind fun t178 => (if t178 = true then (winnowerlaw01_NumRow.j0 k l0 t178 (decide ((l0.length : Int) > 60))) else (winnowerlaw01_NumRow.j0 k l0 t178 true))) = some r := h
  clear h
  replace H := Option.bind_eq_some_iff.mp H
  obtain ⟨t178, A20, H⟩ := H
  replace H : (if t178 = true then (winnowerlaw01_NumRow.j0 k l0 t178 (decide ((l0.length : Int) > 60))) else (winnowerlaw01_NumRow.j0 k l0 t178 true)) = some r := H
  have A2 := Aside0.mk A20
  clear A20
  have HC3 := Aside0.mk H
  clear H
  go_enter Try.func4, Try.ntmps4
  go_upto_region 2 with (first | ((with_reducible refine gate_callee (f := 9) rfl ?_); refine goesL_ (some 10) rfl rfl Try.func9 (by kernel_rfl) rfl #[] rfl (by (try simp only [List.map_toArray, List.map_cons, List.map_nil]); first | done | rfl | (simp only [List.length_drop, List.length_take]; rfl)) ?_; (with_reducible refine (winnowerlaw01_awake.calls  t178 _ A2.out).mono ?_); rintro e w4 ⟨rfl, hb⟩; refine ⟨_, rfl, ?_⟩; have n0_ := Aside0.mk (below_step (by repeat (first | (with_reducible first | exact HB.out | apply below_alloc | apply pw_below_drewN | apply below_drew1) | exact HB.out)) hb); clear HB; have HB := n0_; clear n0_; (try clear hb); (try clear hb2); (try clear hk); (try clear hi)))
  (try simp only [Act.put, List.setIfInBounds_toArray, List.set_cons_zero, List.set_cons_succ])
  go_cut [17] (fun v17 wc => ∃ (kq : Nat) (x17_2 : Bool), v17 = .bool x17_2 ∧ Aside0 (winnowerlaw01_NumRow.j0 kq l0 t178 x17_2 = some r) ∧ Aside0 (kq ≤ k) ∧ Aside0 (Below w.heap.size w wc))
  case first =>
    have H := HC3.out
    clear HC3
    by_cases c5 : t178 = true
    · subst c5
      have H1 : (winnowerlaw01_NumRow.j0 k l0 true (decide ((l0.length : Int) > 60))) = some r := by rw [if_pos rfl] at H; exact H
      clear H
      have H := H1
      clear H1
      have H' := Aside0.mk H
      clear H
      go_wp2
      go_meet
      case rel => exact ⟨_, (decide ((l0.length : Int) > 60)), (by first | rfl | (simp; done) | (simp [*]; done)), H', ⟨by first | omega | exact Nat.le_refl _⟩, ⟨by repeat (first | (with_reducible first | exact HB.out | apply below_alloc | apply pw_below_drewN | apply below_drew1) | exact HB.out)⟩⟩
    · replace c5 := Bool.eq_false_iff.mpr c5
      subst c5
      have H1 : (winnowerlaw01_NumRow.j0 k l0 false true) = some r := by rw [if_neg (show ¬ (false = true) by decide)] at H; exact H
      clear H
      have H := H1
      clear H1
      have H' := Aside0.mk H
      clear H
      go_wp2
      go_meet
      case rel => exact ⟨_, (true), (by first | rfl | (simp; done) | (simp [*]; done)), H', ⟨by first | omega | exact Nat.le_refl _⟩, ⟨by repeat (first | (with_reducible first | exact HB.out | apply below_alloc | apply pw_below_drewN | apply below_drew1) | exact HB.out)⟩⟩
  case rest =>
    clear HC3
    try clear p2
    try clear c4
    try clear c5
    obtain ⟨kq, x17_2, rfl, HA, HJ2, HB⟩ := hcut
    cases kq with
    | zero => exact absurd HA.out (by simp [winnowerlaw01_NumRow.j0])
    | succ kj2 =>
      have H := HA.out
      clear HA
      simp only [winnowerlaw01_NumRow.j0] at H
      by_cases c6 : x17_2 = true
      · subst c6
        have H1 : (some t178) = some r := by rw [if_pos rfl] at H; exact H
        clear H
        have H := H1
        clear H1
        obtain rfl := Option.some.inj H
        go_wp2
        go_ret
        exact ⟨by first | rfl | (simp [errW_none, errW_some] <;> rfl) | (simp [*, errW_none, errW_some] <;> rfl), by repeat (first | (with_reducible first | exact HB.out | apply below_alloc | apply pw_below_drewN | apply below_drew1) | exact HB.out)⟩
      · replace c6 := Bool.eq_false_iff.mpr c6
        subst c6
        have H1 : (winnowerlaw01_NumRow.l0 kj2 l0 ([] : List Int) 0) = some r := by rw [if_neg (show ¬ (false = true) by decide)] at H; exact H
        clear H
        have H := H1
        clear H1
        have H' := Aside0.mk H
        clear H
        go_wp2
        go_loopg [4, 5] kj2 (fun kq v4 v5 w' => ∃ (x4_2 : List Int) (x5_2 : Int), v5 = .int .i64 x5_2 ∧ Aside0 (winnowerlaw01_NumRow.l0 kq l0 x4_2 x5_2 = some r) ∧ Aside0 (kq ≤ kj2) ∧ Aside0 (Kd.Q (Kd.int .u8) 5 w' w.heap.size (fun _ => True) v4 x4_2) ∧ Aside0 (Below w.heap.size w w'))
        case atStart => exact ⟨(([] : List Int)), (0), (by first | rfl | (simp; done) | (simp [*]; done)), H', ⟨Nat.le_refl _⟩, ⟨Kd.Q_of_R (by first | exact Kd.R_nil _ _ _ _ _ | exact Kd.N_nil _ _ _ _ _ | exact Kd.V_nil _ _ _ _ _ | exact Kd.Q_nil _ _ _ _ _ | exact Kd.S_nil _ _ _ _ _)⟩, ⟨by repeat (first | (with_reducible first | exact HB.out | apply below_alloc | apply pw_below_drewN | apply below_drew1) | exact HB.out)⟩⟩
        case round =>
          clear H'
          try clear p2
          try clear c4
          try clear c5
          try clear c6
          try clear p2
          obtain ⟨x4_2, x5_2, rfl, HA, HK2, HO_4, HB⟩ := hrel
          cases gk with
          | zero => exact absurd HA.out (by simp [winnowerlaw01_NumRow.l0])
          | succ k2 =>
            have H := HA.out
            clear HA
            simp only [winnowerlaw01_NumRow.l0] at H
            by_cases c7 : x5_2 < (l0.length : Int)
            · rw [if_pos c7] at H
              have c7b0 : decide (x5_2 < (l0.length : Int)) = true := decide_eq_true c7
              clear c7
              by_cases c8 : 0 ≤ x5_2
              · rw [if_pos c8] at H
                have c8b0 : decide (0 ≤ x5_2) = true := decide_eq_true c8
                clear c8
                replace H := Option.bind_eq_some_iff.mp H
                obtain ⟨t180, A90, H⟩ := H
                replace H : (winnowerlaw01_NumRow.l0 k2 l0 t180 (wrap64 (x5_2 + 1))) = some r := H
                have A9 := Aside0.mk A90
                clear A90
                have H' := Aside0.mk H
                clear H
                have p179 : 0 ≤ (x5_2 : Int) := of_decide_eq_true (by first | (with_reducible assumption) | assumption)
                have q179 : x5_2 < (l0.length : Int) := of_decide_eq_true (by first | (with_reducible assumption) | assumption)
                obtain ⟨ad179, e179, hx179_0⟩ := Kd.at_int HR0.out x5_2 p179 q179
                cases e179
                replace hx179_0 := (HB.out.cell (World.block_lt_of_cell? w _ hx179_0)).trans hx179_0
                replace p179 := eq_true p179
                replace q179 := eq_true q179
                obtain ⟨Ao10, co10, eo10, _⟩ := Kd.Q_slice HO_4.out
                subst eo10
                go_wp2_with (first | ((with_reducible refine gate_callee (f := 10) rfl ?_); refine goesL_ (some 30) rfl rfl Try.func10 (by kernel_rfl) rfl #[.slice Ao10 x4_2.length co10, .int .i64 (rd l0 x5_2)] rfl (by (try simp only [List.map_toArray, List.map_cons, List.map_nil]); first | done | rfl | (simp only [List.length_drop, List.length_take]; rfl)) ?_; (with_reducible refine (num_Put.calls _ _ x4_2 (rd l0 x5_2) t180 _ ?side1 ?side2 A9.out).mono ?_); (case side1 => repeat (first | exact (Kd.Q_reads' HO_4.out).2.2 | (with_reducible refine Kd.C_alloc ?_ _) | (with_reducible refine Kd.C_drewN ?_ _) | (with_reducible refine Kd.C_drew ?_))); (case side2 => exact (Kd.Q_reads' HO_4.out).2.1); rintro e w11 ⟨v181, rfl, ho0, hb⟩; refine ⟨_, rfl, ?_⟩; have n0_ := Aside0.mk (Kd.Q_elder' (by (with_reducible repeat (first | apply Kd.Q_alloc | apply Kd.Q_drewN | apply Kd.Q_drew)); exact HO_4.out) (Kd.R_base ho0) hb); have n1_ := Aside0.mk (Kd.R_lower (Kd.R_new' ho0 (Kd.Q_lt (by (with_reducible repeat (first | apply Kd.Q_alloc | apply Kd.Q_drewN | apply Kd.Q_drew)); exact HO_4.out))) (below_size (by repeat (first | (with_reducible first | exact HB.out | apply below_alloc | apply pw_below_drewN | apply below_drew1) | exact HB.out)))); have n2_ := Aside0.mk (below_step (by repeat (first | (with_reducible first | exact HB.out | apply below_alloc | apply pw_below_drewN | apply below_drew1) | exact HB.out)) hb); clear HO_4; clear HB; have HO_4 := n0_; have HO182 := n1_; have HB := n2_; clear n0_ n1_ n2_; (try clear hb); (try clear hb2); (try clear hk); (try clear hi); (try clear ho0)))
                go_roundg k2
                case measure => have := HJ2.out; have := HK2.out; omega
                case rel => exact ⟨(t180), (wrap64 (x5_2 + 1)), (by first | rfl | (simp; done) | (simp [*]; done)), H', ⟨by have := HJ2.out; have := HK2.out; omega⟩, ⟨Kd.Q_of_R (by (with_reducible repeat (first | apply Kd.R_alloc | apply Kd.R_drewN | apply Kd.R_drew)); exact Kd.R_mono HO182.out (fun _ hk => trivial))⟩, ⟨by repeat (first | (with_reducible first | exact HB.out | apply below_alloc | apply pw_below_drewN | apply below_drew1) | exact HB.out)⟩⟩
              · rw [if_neg c8] at H
                exact absurd H (by simp)
            · rw [if_neg c7] at H
              have c7b0 : decide (x5_2 < (l0.length : Int)) = false := decide_eq_false c7
              clear c7
              have H' := Aside0.mk H
              clear H
              go_wp2
              go_loopg [4, 6] k2 (fun kq v4 v6 w' => ∃ (x4_3 : List Int) (x6_3 : Int), v6 = .int .i64 x6_3 ∧ Aside0 (winnowerlaw01_NumRow.l1 kq l0 x4_3 x6_3 = some r) ∧ Aside0 (kq ≤ k2) ∧ Aside0 (Kd.Q (Kd.int .u8) 5 w' w.heap.size (fun _ => True) v4 x4_3) ∧ Aside0 (Below w.heap.size w w'))
              case atStart => exact ⟨(x4_2), (0), (by first | rfl | (simp; done) | (simp [*]; done)), H', ⟨Nat.le_refl _⟩, ⟨by (with_reducible repeat (first | apply Kd.Q_alloc | apply Kd.Q_drewN | apply Kd.Q_drew)); exact HO_4.out⟩, ⟨by repeat (first | (with_reducible first | exact HB.out | apply below_alloc | apply pw_below_drewN | apply below_drew1) | exact HB.out)⟩⟩
              case round =>
                clear H'
                try clear c1
                try clear p1
                try clear q1
                try clear hx1
                try clear p2
                try clear c4
                try clear c5
                try clear c6
                try clear p6
                try clear c7
                try clear c7b0
                try clear c8
                try clear c8b0
                try clear c9
                try clear c10
                try clear hx179_0
                try clear p179
                try clear p2
                try clear q179
                obtain ⟨x4_3, x6_3, rfl, HA, HK3, HO_4, HB⟩ := hrel
                cases gk with
                | zero => exact absurd HA.out (by simp [winnowerlaw01_NumRow.l1])
                | succ k3 =>
                  have H := HA.out
                  clear HA
                  simp only [winnowerlaw01_NumRow.l1] at H
                  by_cases c12 : x6_3 < (l0.length : Int)
                  · rw [if_pos c12] at H
                    have c12b0 : decide (x6_3 < (l0.length : Int)) = true := decide_eq_true c12
                    clear c12
                    replace H := Option.bind_eq_some_iff.mp H
                    obtain ⟨⟨t183, t184, t185⟩, A130, H⟩ := H
                    replace H : (if t185 = 0 then (if 0 ≤ x6_3 then (if t183 = (rd l0 x6_3) then (if t184 < 1 then (some false) else (if t184 > (x4_3.length : Int) then (some false) else (if 0 ≤ t184 then (if t184 ≤ (x4_3.length : Int) then (winnowerlaw01_NumRow.l1 k3 l0 (x4_3.drop (t184 : Int).toNat) (wrap64 (x6_3 + 1))) else (none)) else (none)))) else (some false)) else (none)) else (some false)) = some r := H
                    have A13 := Aside0.mk A130
                    clear A130
                    by_cases c14 : t185 = 0
                    · rw [if_pos c14] at H
                      have c14b0 : (t185 == 0) = true := beq_iff_eq.mpr c14
                      have c14b1 : (t185 != 0) = false := bne_eq_false_iff_eq.mpr c14
                      clear c14
                      by_cases c15 : 0 ≤ x6_3
                      · rw [if_pos c15] at H
                        have c15b0 : decide (0 ≤ x6_3) = true := decide_eq_true c15
                        clear c15
                        by_cases c16 : t183 = (rd l0 x6_3)
                        · rw [if_pos c16] at H
                          have c16b0 : (t183 == (rd l0 x6_3)) = true := beq_iff_eq.mpr c16
                          have c16b1 : (t183 != (rd l0 x6_3)) = false := bne_eq_false_iff_eq.mpr c16
                          clear c16
                          by_cases c17 : t184 < 1
                          · rw [if_pos c17] at H
                            have c17b0 : decide (t184 < 1) = true := decide_eq_true c17
                            clear c17
                            obtain rfl := Option.some.inj H
                            obtain ⟨Ao18, co18, eo18, _⟩ := Kd.Q_slice HO_4.out
                            subst eo18
                            go_wp2_with (first | ((with_reducible refine gate_callee (f := 16) rfl ?_); refine goesL_ (some 39) rfl rfl Try.func16 (by kernel_rfl) rfl #[.slice Ao18 x4_3.length co18] rfl (by (try simp only [List.map_toArray, List.map_cons, List.map_nil]); first | done | rfl | (simp only [List.length_drop, List.length_take]; rfl)) ?_; (with_reducible refine (num_Get.calls _ _ x4_3 t183 t184 t185 _ ?side1 ?side2 A13.out).mono ?_); (case side1 => repeat (first | exact (Kd.Q_reads' HO_4.out).2.2 | (with_reducible refine Kd.C_alloc ?_ _) | (with_reducible refine Kd.C_drewN ?_ _) | (with_reducible refine Kd.C_drew ?_))); (case side2 => exact (Kd.Q_reads' HO_4.out).2.1); rintro e w' ⟨rfl, ⟨nd, rfl⟩⟩; refine ⟨_, rfl, ?_⟩; have p186 : 0 ≤ (x6_3 : Int) := of_decide_eq_true (by first | (with_reducible assumption) | assumption); have q186 : x6_3 < (l0.length : Int) := of_decide_eq_true (by first | (with_reducible assumption) | assumption); obtain ⟨ad186, e186, hx186_0⟩ := Kd.at_int HR0.out x6_3 p186 q186; cases e186; replace hx186_0 := (HB.out.cell (World.block_lt_of_cell? w _ hx186_0)).trans hx186_0; replace p186 := eq_true p186; replace q186 := eq_true q186))
                            go_ret
                            exact ⟨by first | rfl | (simp [errW_none, errW_some] <;> rfl) | (simp [*, errW_none, errW_some] <;> rfl), by repeat (first | (with_reducible first | exact HB.out | apply below_alloc | apply pw_below_drewN | apply below_drew1) | exact HB.out)⟩
                          · rw [if_neg c17] at H
                            have c17b0 : decide (t184 < 1) = false := decide_eq_false c17
                            clear c17
                            by_cases c19 : t184 > (x4_3.length : Int)
                            · rw [if_pos c19] at H
                              have c19b0 : decide ((x4_3.length : Int) < t184) = true := decide_eq_true c19
                              clear c19
                              obtain rfl := Option.some.inj H
                              obtain ⟨Ao20, co20, eo20, _⟩ := Kd.Q_slice HO_4.out
                              subst eo20
                              go_wp2_with (first | ((with_reducible refine gate_callee (f := 16) rfl ?_); refine goesL_ (some 39) rfl rfl Try.func16 (by kernel_rfl) rfl #[.slice Ao20 x4_3.length co20] rfl (by (try simp only [List.map_toArray, List.map_cons, List.map_nil]); first | done | rfl | (simp only [List.length_drop, List.length_take]; rfl)) ?_; (with_reducible refine (num_Get.calls _ _ x4_3 t183 t184 t185 _ ?side1 ?side2 A13.out).mono ?_); (case side1 => repeat (first | exact (Kd.Q_reads' HO_4.out).2.2 | (with_reducible refine Kd.C_alloc ?_ _) | (with_reducible refine Kd.C_drewN ?_ _) | (with_reducible refine Kd.C_drew ?_))); (case side2 => exact (Kd.Q_reads' HO_4.out).2.1); rintro e w' ⟨rfl, ⟨nd, rfl⟩⟩; refine ⟨_, rfl, ?_⟩; have p186 : 0 ≤ (x6_3 : Int) := of_decide_eq_true (by first | (with_reducible assumption) | assumption); have q186 : x6_3 < (l0.length : Int) := of_decide_eq_true (by first | (with_reducible assumption) | assumption); obtain ⟨ad186, e186, hx186_0⟩ := Kd.at_int HR0.out x6_3 p186 q186; cases e186; replace hx186_0 := (HB.out.cell (World.block_lt_of_cell? w _ hx186_0)).trans hx186_0; replace p186 := eq_true p186; replace q186 := eq_true q186))
                              go_ret
                              exact ⟨by first | rfl | (simp [errW_none, errW_some] <;> rfl) | (simp [*, errW_none, errW_some] <;> rfl), by repeat (first | (with_reducible first | exact HB.out | apply below_alloc | apply pw_below_drewN | apply below_drew1) | exact HB.out)⟩
                            · rw [if_neg c19] at H
                              have c19b0 : decide ((x4_3.length : Int) < t184) = false := decide_eq_false c19
                              clear c19
                              by_cases c21 : 0 ≤ t184
                              · rw [if_pos c21] at H
                                have c21b0 := eq_true c21
                                have c21b1 : decide (0 ≤ t184) = true := decide_eq_true c21
                                clear c21
                                by_cases c22 : t184 ≤ (x4_3.length : Int)
                                · rw [if_pos c22] at H
                                  have c22b0 := eq_true c22
                                  have c22b1 : decide (t184 ≤ (x4_3.length : Int)) = true := decide_eq_true c22
                                  clear c22
                                  obtain ⟨y187, hy187⟩ : ∃ y_ : List Int, y_ = (x4_3.drop (t184 : Int).toNat) := ⟨_, rfl⟩
                                  replace H : (winnowerlaw01_NumRow.l1 k3 l0 y187 (wrap64 (x6_3 + 1))) = some r := by first | (rw [hy187]; with_reducible exact H) | (have H2_ := (Option.bind_some _ _).symm.trans H; rw [hy187]; with_reducible exact H2_) | (have H2_ := (Option.bind_some _ _).symm.trans H; with_reducible exact H2_) | with_reducible exact H | (rw [hy187]; exact H) | exact H
                                  have Ny187 := Aside0.mk hy187
                                  clear hy187
                                  have H' := Aside0.mk H
                                  clear H
                                  obtain ⟨Ao23, co23, eo23, _⟩ := Kd.Q_slice HO_4.out
                                  subst eo23
                                  go_wp2_with (first | ((with_reducible refine gate_callee (f := 16) rfl ?_); refine goesL_ (some 39) rfl rfl Try.func16 (by kernel_rfl) rfl #[.slice Ao23 x4_3.length co23] rfl (by (try simp only [List.map_toArray, List.map_cons, List.map_nil]); first | done | rfl | (simp only [List.length_drop, List.length_take]; rfl)) ?_; (with_reducible refine (num_Get.calls _ _ x4_3 t183 t184 t185 _ ?side1 ?side2 A13.out).mono ?_); (case side1 => repeat (first | exact (Kd.Q_reads' HO_4.out).2.2 | (with_reducible refine Kd.C_alloc ?_ _) | (with_reducible refine Kd.C_drewN ?_ _) | (with_reducible refine Kd.C_drew ?_))); (case side2 => exact (Kd.Q_reads' HO_4.out).2.1); rintro e w' ⟨rfl, ⟨nd, rfl⟩⟩; refine ⟨_, rfl, ?_⟩; have p186 : 0 ≤ (x6_3 : Int) := of_decide_eq_true (by first | (with_reducible assumption) | assumption); have q186 : x6_3 < (l0.length : Int) := of_decide_eq_true (by first | (with_reducible assumption) | assumption); obtain ⟨ad186, e186, hx186_0⟩ := Kd.at_int HR0.out x6_3 p186 q186; cases e186; replace hx186_0 := (HB.out.cell (World.block_lt_of_cell? w _ hx186_0)).trans hx186_0; replace p186 := eq_true p186; replace q186 := eq_true q186; have q24 : (t184 : Int) ≤ ((x4_3.length : Int) : Int) := of_decide_eq_true (by first | (with_reducible assumption) | assumption); obtain ⟨i024, hi024, _, hsz24, _⟩ := info_parts info5; have hcut24 := cut_from (P := Try.prog) 22 5 .i64 Try.underlying22 hi024 1 hsz24 Ao23 x4_3.length co23 t184 (of_decide_eq_true (by first | (with_reducible assumption) | assumption)) q24; have hr24 := Kd.Q_drop (k := (t184 : Int).toNat) HO_4.out (by omega); obtain ⟨A24, hA24⟩ : ∃ A1, A1 = (if co23 = (t184 : Int).toNat then Ao23 else (Ao23 : Option Addr).map (·.add ((t184 : Int).toNat * 1))) := ⟨_, rfl⟩; obtain ⟨c24, hc24⟩ : ∃ c1, c1 = co23 - (t184 : Int).toNat := ⟨_, rfl⟩; have hy24 : y187.length = x4_3.length - (t184 : Int).toNat := (by rw [Ny187.out, List.length_drop]); rw [← Ny187.out] at hr24; rw [← hy24, ← hA24, ← hc24] at hcut24; replace hr24 : Kd.Q (Kd.int .u8) 5 wr w.heap.size (fun _ => True) (.slice A24 y187.length c24) y187 := (by rw [hA24, hc24, hy24]; exact hr24); have HE24 : Aside0 ((Value.slice A24 y187.length c24).ownBlock = (.slice Ao23 x4_3.length co23 : Value).ownBlock) := ⟨by rw [hA24]; split <;> (cases (Ao23 : Option Addr) <;> first | rfl | (simp only [Option.map_some, Value.ownBlock, Addr.add]; split <;> rfl))⟩; clear hy24 hi024 hsz24 HO_4 hA24 hc24; have HO189 := Aside0.mk hr24; clear hr24; replace q24 := eq_true q24))
                                  go_roundg k3
                                  case measure => have := HJ2.out; have := HK2.out; have := HK3.out; omega
                                  case rel => exact ⟨(y187), (wrap64 (x6_3 + 1)), (by first | rfl | (simp; done) | (simp [*]; done)), H', ⟨by have := HJ2.out; have := HK2.out; have := HK3.out; omega⟩, ⟨by (with_reducible repeat (first | apply Kd.Q_alloc | apply Kd.Q_drewN | apply Kd.Q_drew)); exact HO189.out⟩, ⟨by repeat (first | (with_reducible first | exact HB.out | apply below_alloc | apply pw_below_drewN | apply below_drew1) | exact HB.out)⟩⟩
                                · rw [if_neg c22] at H
                                  exact absurd H (by simp)
                              · rw [if_neg c21] at H
                                exact absurd H (by simp)
                        · rw [if_neg c16] at H
                          have c16b0 : (t183 == (rd l0 x6_3)) = false := beq_eq_false_iff_ne.mpr c16
                          have c16b1 : (t183 != (rd l0 x6_3)) = true := bne_iff_ne.mpr c16
                          obtain rfl := Option.some.inj H
                          obtain ⟨Ao25, co25, eo25, _⟩ := Kd.Q_slice HO_4.out
                          subst eo25
                          go_wp2_with (first | ((with_reducible refine gate_callee (f := 16) rfl ?_); refine goesL_ (some 39) rfl rfl Try.func16 (by kernel_rfl) rfl #[.slice Ao25 x4_3.length co25] rfl (by (try simp only [List.map_toArray, List.map_cons, List.map_nil]); first | done | rfl | (simp only [List.length_drop, List.length_take]; rfl)) ?_; (with_reducible refine (num_Get.calls _ _ x4_3 t183 t184 t185 _ ?side1 ?side2 A13.out).mono ?_); (case side1 => repeat (first | exact (Kd.Q_reads' HO_4.out).2.2 | (with_reducible refine Kd.C_alloc ?_ _) | (with_reducible refine Kd.C_drewN ?_ _) | (with_reducible refine Kd.C_drew ?_))); (case side2 => exact (Kd.Q_reads' HO_4.out).2.1); rintro e w' ⟨rfl, ⟨nd, rfl⟩⟩; refine ⟨_, rfl, ?_⟩; have p186 : 0 ≤ (x6_3 : Int) := of_decide_eq_true (by first | (with_reducible assumption) | assumption); have q186 : x6_3 < (l0.length : Int) := of_decide_eq_true (by first | (with_reducible assumption) | assumption); obtain ⟨ad186, e186, hx186_0⟩ := Kd.at_int HR0.out x6_3 p186 q186; cases e186; replace hx186_0 := (HB.out.cell (World.block_lt_of_cell? w _ hx186_0)).trans hx186_0; replace p186 := eq_true p186; replace q186 := eq_true q186))
                          go_ret
                          exact ⟨by first | rfl | (simp [errW_none, errW_some] <;> rfl) | (simp [*, errW_none, errW_some] <;> rfl), by repeat (first | (with_reducible first | exact HB.out | apply below_alloc | apply pw_below_drewN | apply below_drew1) | exact HB.out)⟩
                      · rw [if_neg c15] at H
                        exact absurd H (by simp)
                    · rw [if_neg c14] at H
                      have c14b0 : (t185 == 0) = false := beq_eq_false_iff_ne.mpr c14
                      have c14b1 : (t185 != 0) = true := bne_iff_ne.mpr c14
                      obtain rfl := Option.some.inj H
                      obtain ⟨Ao26, co26, eo26, _⟩ := Kd.Q_slice HO_4.out
                      subst eo26
                      go_wp2_with (first | ((with_reducible refine gate_callee (f := 16) rfl ?_); refine goesL_ (some 39) rfl rfl Try.func16 (by kernel_rfl) rfl #[.slice Ao26 x4_3.length co26] rfl (by (try simp only [List.map_toArray, List.map_cons, List.map_nil]); first | done | rfl | (simp only [List.length_drop, List.length_take]; rfl)) ?_; (with_reducible refine (num_Get.calls _ _ x4_3 t183 t184 t185 _ ?side1 ?side2 A13.out).mono ?_); (case side1 => repeat (first | exact (Kd.Q_reads' HO_4.out).2.2 | (with_reducible refine Kd.C_alloc ?_ _) | (with_reducible refine Kd.C_drewN ?_ _) | (with_reducible refine Kd.C_drew ?_))); (case side2 => exact (Kd.Q_reads' HO_4.out).2.1); rintro e w' ⟨rfl, ⟨nd, rfl⟩⟩; refine ⟨_, rfl, ?_⟩))
                      go_ret
                      exact ⟨by first | rfl | (simp [errW_none, errW_some] <;> rfl) | (simp [*, errW_none, errW_some] <;> rfl), by repeat (first | (with_reducible first | exact HB.out | apply below_alloc | apply pw_below_drewN | apply below_drew1) | exact HB.out)⟩
                  · rw [if_neg c12] at H
                    have c12b0 : decide (x6_3 < (l0.length : Int)) = false := decide_eq_false c12
                    clear c12
                    obtain rfl := Option.some.inj H
                    obtain ⟨Ao27, co27, eo27, _⟩ := Kd.Q_slice HO_4.out
                    subst eo27
                    go_wp2
                    go_ret
                    exact ⟨by first | rfl | (simp [errW_none, errW_some] <;> rfl) | (simp [*, errW_none, errW_some] <;> rfl), by repeat (first | (with_reducible first | exact HB.out | apply below_alloc | apply pw_below_drewN | apply below_drew1) | exact HB.out)⟩

/-- THE ONE PURE STATEMENT of winnowerlaw01_NumRow: yours. -/
def winnowerlaw01_NumRow.Pure : Prop := ∀ (l0 : List Int), l0.length ≤ maxLen → l0.length * 8 ≤ 140737488351232 → (∀ x ∈ l0, (Lit.int .i64 x).wf = true) → ∃ k, winnowerlaw01_NumRow.f k l0 = some true
theorem winnowerlaw01_NumRow.walk (P : winnowerlaw01_NumRow.Pure) (a0 : Option Addr) (len0 cap0 : Nat) (z0 : List Int) (w : World) (w0 : (a0 = none ∧ len0 = 0 ∧ cap0 = 0 ∧ z0 = []) ∨ ∃ x, a0 = some x ∧ len0 ≤ cap0 ∧ cap0 ≤ maxLen ∧ z0.length = cap0 ∧ (∀ i, i < z0.length → w.cell? (x.add i) = some (.int .i64 (z0.getD i 0))) ∧ ∀ n ∈ z0, (Lit.int .i64 n).wf = true) (y0 : len0 * 8 ≤ 140737488351232) :
    Calls Try.prog 4 #[.slice a0 len0 cap0] w fun e w' => e = .returned (.bool true) ∧ Below w.heap.size w w' := by
  obtain ⟨l0, rfl, hr0, hm0, hw0, hc0⟩ := ReadsInt.ofRowC w0
  obtain ⟨k, h⟩ := P l0 hm0 y0 hw0
  refine (winnowerlaw01_NumRow.calls k _ _ l0 true w (Kd.C_of_reads (d := (0 : Int)) (h1 := fun _ => rfl) hr0) hc0 h).mono ?_
  rintro e w' ⟨rfl, hd⟩
  exact ⟨rfl, hd⟩

/-! ### winnowerlaw01_NumShort: function 5 -/
mutual
def winnowerlaw01_NumShort.j0 : Nat → Int → Int → Int → Int → Bool → Option (Bool)
  | 0, _, _, _, _, _ => none
  | k + 1, x0, x1, x6, x7, x31 => if x31 = true then (some false) else (if x0 ≥ 0 then (if x1 ≥ x0 then (if x6 > x7 then (winnowerlaw01_NumShort.j1 k x0 x6 true) else (if x0 < 0 then (if x1 ≤ x0 then (winnowerlaw01_NumShort.j1 k x0 x6 (decide (x6 > x7))) else (winnowerlaw01_NumShort.j1 k x0 x6 false)) else (winnowerlaw01_NumShort.j1 k x0 x6 false))) else (if x0 < 0 then (if x1 ≤ x0 then (winnowerlaw01_NumShort.j1 k x0 x6 (decide (x6 > x7))) else (winnowerlaw01_NumShort.j1 k x0 x6 false)) else (winnowerlaw01_NumShort.j1 k x0 x6 false))) else (if x0 < 0 then (if x1 ≤ x0 then (winnowerlaw01_NumShort.j1 k x0 x6 (decide (x6 > x7))) else (winnowerlaw01_NumShort.j1 k x0 x6 false)) else (winnowerlaw01_NumShort.j1 k x0 x6 false)))
def winnowerlaw01_NumShort.j1 : Nat → Int → Int → Bool → Option (Bool)
  | 0, _, _, _ => none
  | k + 1, x0, x6, x57 => if x57 = true then (some false) else (if x0 = (wrap64 (-x0)) then (some true) else ((num_Size.f (wrap64 (-x0))).bind fun t193 => (if (wrap64 (t193 - x6)) ≤ 1 then (some (decide ((wrap64 (x6 - t193)) ≤ 1))) else (some false))))
end
def winnowerlaw01_NumShort.f (k : Nat) (a0 : Int) (a1 : Int) : Option (Bool) := (winnowerlaw01_awake.f).bind fun t190 => ((num_Size.f a0).bind fun t191 => ((num_Size.f a1).bind fun t192 => (if t190 = true then (if t191 < 1 then (winnowerlaw01_NumShort.j0 k a0 a1 t191 t192 true) else (if t191 > 10 then (winnowerlaw01_NumShort.j0 k a0 a1 t191 t192 true) else (if t192 < 1 then (winnowerlaw01_NumShort.j0 k a0 a1 t191 t192 true) else (winnowerlaw01_NumShort.j0 k a0 a1 t191 t192 (decide (t192 > 10)))))) else (winnowerlaw01_NumShort.j0 k a0 a1 t191 t192 true))))
theorem winnowerlaw01_NumShort.mono_l : ∀ k, (∀ y0 y1 y2 y3 y4, LeO (winnowerlaw01_NumShort.j0 k y0 y1 y2 y3 y4) (winnowerlaw01_NumShort.j0 (k + 1) y0 y1 y2 y3 y4)) ∧ (∀ y0 y1 y2, LeO (winnowerlaw01_NumShort.j1 k y0 y1 y2) (winnowerlaw01_NumShort.j1 (k + 1) y0 y1 y2))
  | 0 => ⟨fun _ _ _ _ _ r h => by simp [winnowerlaw01_NumShort.j0] at h, fun _ _ _ r h => by simp [winnowerlaw01_NumShort.j1] at h⟩
  | k + 1 => by
    obtain ⟨ih0, ih1⟩ := winnowerlaw01_NumShort.mono_l k
    refine ⟨?_, ?_⟩
    · intro y0 y1 y2 y3 y4
      unfold winnowerlaw01_NumShort.j0
      repeat' first
      | (with_reducible exact ih0 _ _ _ _ _)
      | (with_reducible exact ih1 _ _ _)
      | (with_reducible exact LeO.refl _)
      | (with_reducible exact LeO.none _)
      | (with_reducible refine LeO.ite ?_ ?_)
      | (with_reducible refine LeO.bind ?_ (fun _ => ?_))
      | exact ih0 _ _ _ _ _
      | exact ih1 _ _ _
      | exact LeO.none _
      | refine LeO.ite ?_ ?_
      | refine LeO.bind ?_ (fun _ => ?_)
    · intro y0 y1 y2
      unfold winnowerlaw01_NumShort.j1
      repeat' first
      | (with_reducible exact ih0 _ _ _ _ _)
      | (with_reducible exact ih1 _ _ _)
      | (with_reducible exact LeO.refl _)
      | (with_reducible exact LeO.none _)
      | (with_reducible refine LeO.ite ?_ ?_)
      | (with_reducible refine LeO.bind ?_ (fun _ => ?_))
      | exact ih0 _ _ _ _ _
      | exact ih1 _ _ _
      | exact LeO.none _
      | refine LeO.ite ?_ ?_
      | refine LeO.bind ?_ (fun _ => ?_)
theorem winnowerlaw01_NumShort.mono : ∀ a0 a1 k, LeO (winnowerlaw01_NumShort.f k a0 a1) (winnowerlaw01_NumShort.f (k + 1) a0 a1) := by
  intro a0 a1 k
  obtain ⟨ih0, ih1⟩ := winnowerlaw01_NumShort.mono_l k
  unfold winnowerlaw01_NumShort.f
  repeat' first
      | (with_reducible exact ih0 _ _ _ _ _)
      | (with_reducible exact ih1 _ _ _)
      | (with_reducible exact LeO.refl _)
      | (with_reducible exact LeO.none _)
      | (with_reducible refine LeO.ite ?_ ?_)
      | (with_reducible refine LeO.bind ?_ (fun _ => ?_))
      | exact ih0 _ _ _ _ _
      | exact ih1 _ _ _
      | exact LeO.none _
      | refine LeO.ite ?_ ?_
      | refine LeO.bind ?_ (fun _ => ?_)
set_option maxHeartbeats 8000000 in
set_option maxRecDepth 100000 in
theorem winnowerlaw01_NumShort.calls (k : Nat) (a0 : Int) (a1 : Int) (r : Bool) (w : World) (h : winnowerlaw01_NumShort.f k a0 a1 = some r) :
    Calls Try.prog 5 #[.int .i64 a0, .int .i64 a1] w fun e w' => e = .returned (.bool r) ∧ Below w.heap.size w w' := by
  have HB := Aside0.mk (Below.refl w.heap.size w)
  have H : ((winnowerlaw01_awake.f).bind fun t190 => ((num_Size.f a0).bind fun t191 => ((num_Size.f a1).bind fun t192 => (if t190 = true then (if t191 < 1 then (winnowerlaw01_NumShort.j0 k a0 a1 t191 t192 true) else (if t191 > 10 then (winnowerlaw01_NumShort.j0 k a0 a1 t191 t192 true) else (if t192 < 1 then (winnowerlaw01_NumShort.j0 k a0 a1 t191 t192 true) else (winnowerlaw01_NumShort.j0 k a0 a1 t191 t192 (decide (t192 > 10)))))) else (winnowerlaw01_NumShort.j0 k a0 a1 t191 t192 true))))) = some r := h
  clear h
  replace H := Option.bind_eq_some_iff.mp H
  obtain ⟨t190, A30, H⟩ := H
  replace H : ((num_Size.f a0).bind fun t191 => ((num_Size.f a1).bind fun t192 => (if t190 = true then (if t191 < 1 then (winnowerlaw01_NumShort.j0 k a0 a1 t191 t192 true) else (if t191 > 10 then (winnowerlaw01_NumShort.j0 k a0 a1 t191 t192 true) else (if t192 < 1 then (winnowerlaw01_NumShort.j0 k a0 a1 t191 t192 true) else (winnowerlaw01_NumShort.j0 k a0 a1 t191 t192 (decide (t192 > 10)))))) else (winnowerlaw01_NumShort.j0 k a0 a1 t191 t192 true)))) = some r := H
  have A3 := Aside0.mk A30
  clear A30
  replace H := Option.bind_eq_some_iff.mp H
  obtain ⟨t191, A40, H⟩ := H
  replace H : ((num_Size.f a1).bind fun t192 => (if t190 = true then (if t191 < 1 then (winnowerlaw01_NumShort.j0 k a0 a1 t191 t192 true) else (if t191 > 10 then (winnowerlaw01_NumShort.j0 k a0 a1 t191 t192 true) else (if t192 < 1 then (winnowerlaw01_NumShort.j0 k a0 a1 t191 t192 true) else (winnowerlaw01_NumShort.j0 k a0 a1 t191 t192 (decide (t192 > 10)))))) else (winnowerlaw01_NumShort.j0 k a0 a1 t191 t192 true))) = some r := H
  have A4 := Aside0.mk A40
  clear A40
  replace H := Option.bind_eq_some_iff.mp H
  obtain ⟨t192, A50, H⟩ := H
  replace H : (if t190 = true then (if t191 < 1 then (winnowerlaw01_NumShort.j0 k a0 a1 t191 t192 true) else (if t191 > 10 then (winnowerlaw01_NumShort.j0 k a0 a1 t191 t192 true) else (if t192 < 1 then (winnowerlaw01_NumShort.j0 k a0 a1 t191 t192 true) else (winnowerlaw01_NumShort.j0 k a0 a1 t191 t192 (decide (t192 > 10)))))) else (winnowerlaw01_NumShort.j0 k a0 a1 t191 t192 true)) = some r := H
  have A5 := Aside0.mk A50
  clear A50
  have HC6 := Aside0.mk H
  clear H
  go_enter Try.func5, Try.ntmps5
  go_upto_region 4 with (first | ((with_reducible refine gate_callee (f := 9) rfl ?_); refine goesL_ (some 9) rfl rfl Try.func9 (by kernel_rfl) rfl #[] rfl (by (try simp only [List.map_toArray, List.map_cons, List.map_nil]); first | done | rfl | (simp only [List.length_drop, List.length_take]; rfl)) ?_; (with_reducible refine (winnowerlaw01_awake.calls  t190 _ A3.out).mono ?_); rintro e w7 ⟨rfl, hb⟩; refine ⟨_, rfl, ?_⟩; have n0_ := Aside0.mk (below_step (by repeat (first | (with_reducible first | exact HB.out | apply below_alloc | apply pw_below_drewN | apply below_drew1) | exact HB.out)) hb); clear HB; have HB := n0_; clear n0_; (try clear hb); (try clear hb2); (try clear hk); (try clear hi)) | ((with_reducible refine gate_callee (f := 15) rfl ?_); refine goesL_ (some 11) rfl rfl Try.func15 (by kernel_rfl) rfl #[.int .i64 a0] rfl (by (try simp only [List.map_toArray, List.map_cons, List.map_nil]); first | done | rfl | (simp only [List.length_drop, List.length_take]; rfl)) ?_; (with_reducible refine (num_Size.calls a0 t191 _ A4.out).mono ?_); rintro e w' ⟨rfl, ⟨nd, rfl⟩⟩; refine ⟨_, rfl, ?_⟩) | ((with_reducible refine gate_callee (f := 15) rfl ?_); refine goesL_ (some 13) rfl rfl Try.func15 (by kernel_rfl) rfl #[.int .i64 a1] rfl (by (try simp only [List.map_toArray, List.map_cons, List.map_nil]); first | done | rfl | (simp only [List.length_drop, List.length_take]; rfl)) ?_; (with_reducible refine (num_Size.calls a1 t192 _ A5.out).mono ?_); rintro e w' ⟨rfl, ⟨nd, rfl⟩⟩; refine ⟨_, rfl, ?_⟩))
  (try simp only [Act.put, List.setIfInBounds_toArray, List.set_cons_zero, List.set_cons_succ])
  go_cut [31] (fun v31 wc => ∃ (kq : Nat) (x31_5 : Bool), v31 = .bool x31_5 ∧ Aside0 (winnowerlaw01_NumShort.j0 kq a0 a1 t191 t192 x31_5 = some r) ∧ Aside0 (kq ≤ k) ∧ Aside0 (Below w.heap.size w wc))
  case first =>
    have H := HC6.out
    clear HC6
    by_cases c8 : t190 = true
    · subst c8
      have H1 : (if t191 < 1 then (winnowerlaw01_NumShort.j0 k a0 a1 t191 t192 true) else (if t191 > 10 then (winnowerlaw01_NumShort.j0 k a0 a1 t191 t192 true) else (if t192 < 1 then (winnowerlaw01_NumShort.j0 k a0 a1 t191 t192 true) else (winnowerlaw01_NumShort.j0 k a0 a1 t191 t192 (decide (t192 > 10)))))) = some r := by rw [if_pos rfl] at H; exact H
      clear H
      have H := H1
      clear H1
      by_cases c9 : t191 < 1
      · rw [if_pos c9] at H
        have c9b0 : decide (t191 < 1) = true := decide_eq_true c9
        clear c9
        (first | rw [c9b0] | (simp only [i64_w, i32_w]; rw [c9b0]) | skip)
        have H' := Aside0.mk H
        clear H
        go_wp2
        go_meet
        case rel => exact ⟨_, (true), (by first | rfl | (simp; done) | (simp [*]; done)), H', ⟨by first | omega | exact Nat.le_refl _⟩, ⟨by repeat (first | (with_reducible first | exact HB.out | apply below_alloc | apply pw_below_drewN | apply below_drew1) | exact HB.out)⟩⟩
      · rw [if_neg c9] at H
        have c9b0 : decide (t191 < 1) = false := decide_eq_false c9
        clear c9
        (first | rw [c9b0] | (simp only [i64_w, i32_w]; rw [c9b0]) | skip)
        by_cases c10 : t191 > 10
        · rw [if_pos c10] at H
          have c10b0 : decide (10 < t191) = true := decide_eq_true c10
          clear c10
          have H' := Aside0.mk H
          clear H
          go_wp2
          go_meet
          case rel => exact ⟨_, (true), (by first | rfl | (simp; done) | (simp [*]; done)), H', ⟨by first | omega | exact Nat.le_refl _⟩, ⟨by repeat (first | (with_reducible first | exact HB.out | apply below_alloc | apply pw_below_drewN | apply below_drew1) | exact HB.out)⟩⟩
        · rw [if_neg c10] at H
          have c10b0 : decide (10 < t191) = false := decide_eq_false c10
          clear c10
          by_cases c11 : t192 < 1
          · rw [if_pos c11] at H
            have c11b0 : decide (t192 < 1) = true := decide_eq_true c11
            clear c11
            have H' := Aside0.mk H
            clear H
            go_wp2
            go_meet
            case rel => exact ⟨_, (true), (by first | rfl | (simp; done) | (simp [*]; done)), H', ⟨by first | omega | exact Nat.le_refl _⟩, ⟨by repeat (first | (with_reducible first | exact HB.out | apply below_alloc | apply pw_below_drewN | apply below_drew1) | exact HB.out)⟩⟩
          · rw [if_neg c11] at H
            have c11b0 : decide (t192 < 1) = false := decide_eq_false c11
            clear c11
            have H' := Aside0.mk H
            clear H
            go_wp2
            go_meet
            case rel => exact ⟨_, (decide (t192 > 10)), (by first | rfl | (simp; done) | (simp [*]; done)), H', ⟨by first | omega | exact Nat.le_refl _⟩, ⟨by repeat (first | (with_reducible first | exact HB.out | apply below_alloc | apply pw_below_drewN | apply below_drew1) | exact HB.out)⟩⟩
    · replace c8 := Bool.eq_false_iff.mpr c8
      subst c8
      have H1 : (winnowerlaw01_NumShort.j0 k a0 a1 t191 t192 true) = some r := by rw [if_neg (show ¬ (false = true) by decide)] at H; exact H
      clear H
      have H := H1
      clear H1
      have H' := Aside0.mk H
      clear H
      go_wp2
      go_meet
      case rel => exact ⟨_, (true), (by first | rfl | (simp; done) | (simp [*]; done)), H', ⟨by first | omega | exact Nat.le_refl _⟩, ⟨by repeat (first | (with_reducible first | exact HB.out | apply below_alloc | apply pw_below_drewN | apply below_drew1) | exact HB.out)⟩⟩
  case rest =>
    clear HC6
    try clear c1
    try clear p2
    try clear c5
    try clear c8
    try clear c9
    try clear c9b0
    try clear c10
    try clear c10b0
    try clear c11
    try clear c11b0
    obtain ⟨kq, x31_5, rfl, HA, HJ5, HB⟩ := hcut
    cases kq with
    | zero => exact absurd HA.out (by simp [winnowerlaw01_NumShort.j0])
    | succ kj5 =>
      have H := HA.out
      clear HA
      simp only [winnowerlaw01_NumShort.j0] at H
      by_cases c12 : x31_5 = true
      · subst c12
        have H1 : (some false) = some r := by rw [if_pos rfl] at H; exact H
        clear H
        have H := H1
        clear H1
        obtain rfl := Option.some.inj H
        go_wp2
        go_ret
        exact ⟨by first | rfl | (simp [errW_none, errW_some] <;> rfl) | (simp [*, errW_none, errW_some] <;> rfl), by repeat (first | (with_reducible first | exact HB.out | apply below_alloc | apply pw_below_drewN | apply below_drew1) | exact HB.out)⟩
      · replace c12 := Bool.eq_false_iff.mpr c12
        subst c12
        have H1 : (if a0 ≥ 0 then (if a1 ≥ a0 then (if t191 > t192 then (winnowerlaw01_NumShort.j1 kj5 a0 t191 true) else (if a0 < 0 then (if a1 ≤ a0 then (winnowerlaw01_NumShort.j1 kj5 a0 t191 (decide (t191 > t192))) else (winnowerlaw01_NumShort.j1 kj5 a0 t191 false)) else (winnowerlaw01_NumShort.j1 kj5 a0 t191 false))) else (if a0 < 0 then (if a1 ≤ a0 then (winnowerlaw01_NumShort.j1 kj5 a0 t191 (decide (t191 > t192))) else (winnowerlaw01_NumShort.j1 kj5 a0 t191 false)) else (winnowerlaw01_NumShort.j1 kj5 a0 t191 false))) else (if a0 < 0 then (if a1 ≤ a0 then (winnowerlaw01_NumShort.j1 kj5 a0 t191 (decide (t191 > t192))) else (winnowerlaw01_NumShort.j1 kj5 a0 t191 false)) else (winnowerlaw01_NumShort.j1 kj5 a0 t191 false))) = some r := by rw [if_neg (show ¬ (false = true) by decide)] at H; exact H
        clear H
        have H := H1
        clear H1
        have HC13 := Aside0.mk H
        clear H
        go_upto_region 6 with (fail)
        go_cut [57] (fun v57 wc => ∃ (kq : Nat) (x57_12 : Bool), v57 = .bool x57_12 ∧ Aside0 (winnowerlaw01_NumShort.j1 kq a0 t191 x57_12 = some r) ∧ Aside0 (kq ≤ kj5) ∧ Aside0 (Below w.heap.size w wc))
        case first =>
          have H := HC13.out
          clear HC13
          by_cases c14 : a0 ≥ 0
          · rw [if_pos c14] at H
            have c14b0 : decide (0 ≤ a0) = true := decide_eq_true c14
            clear c14
            (first | rw [c14b0] | (simp only [i64_w, i32_w]; rw [c14b0]) | skip)
            by_cases c15 : a1 ≥ a0
            · rw [if_pos c15] at H
              have c15b0 : decide (a0 ≤ a1) = true := decide_eq_true c15
              clear c15
              by_cases c16 : t191 > t192
              · rw [if_pos c16] at H
                have c16b0 : decide (t192 < t191) = true := decide_eq_true c16
                clear c16
                have H' := Aside0.mk H
                clear H
                go_wp2
                go_meet
                case rel => exact ⟨_, (true), (by first | rfl | (simp; done) | (simp [*]; done)), H', ⟨by have := HJ5.out; first | omega | exact Nat.le_refl _⟩, ⟨by repeat (first | (with_reducible first | exact HB.out | apply below_alloc | apply pw_below_drewN | apply below_drew1) | exact HB.out)⟩⟩
              · rw [if_neg c16] at H
                have c16b0 : decide (t192 < t191) = false := decide_eq_false c16
                clear c16
                by_cases c17 : a0 < 0
                · rw [if_pos c17] at H
                  have c17b0 : decide (a0 < 0) = true := decide_eq_true c17
                  clear c17
                  by_cases c18 : a1 ≤ a0
                  · rw [if_pos c18] at H
                    have c18b0 : decide (a1 ≤ a0) = true := decide_eq_true c18
                    clear c18
                    have H' := Aside0.mk H
                    clear H
                    go_wp2
                    go_meet
                    case rel => exact ⟨_, (decide (t191 > t192)), (by first | rfl | (simp; done) | (simp [*]; done)), H', ⟨by have := HJ5.out; first | omega | exact Nat.le_refl _⟩, ⟨by repeat (first | (with_reducible first | exact HB.out | apply below_alloc | apply pw_below_drewN | apply below_drew1) | exact HB.out)⟩⟩
                  · rw [if_neg c18] at H
                    have c18b0 : decide (a1 ≤ a0) = false := decide_eq_false c18
                    clear c18
                    have H' := Aside0.mk H
                    clear H
                    go_wp2
                    go_meet
                    case rel => exact ⟨_, (false), (by first | rfl | (simp; done) | (simp [*]; done)), H', ⟨by have := HJ5.out; first | omega | exact Nat.le_refl _⟩, ⟨by repeat (first | (with_reducible first | exact HB.out | apply below_alloc | apply pw_below_drewN | apply below_drew1) | exact HB.out)⟩⟩
                · rw [if_neg c17] at H
                  have c17b0 : decide (a0 < 0) = false := decide_eq_false c17
                  clear c17
                  have H' := Aside0.mk H
                  clear H
                  go_wp2
                  go_meet
                  case rel => exact ⟨_, (false), (by first | rfl | (simp; done) | (simp [*]; done)), H', ⟨by have := HJ5.out; first | omega | exact Nat.le_refl _⟩, ⟨by repeat (first | (with_reducible first | exact HB.out | apply below_alloc | apply pw_below_drewN | apply below_drew1) | exact HB.out)⟩⟩
            · rw [if_neg c15] at H
              have c15b0 : decide (a0 ≤ a1) = false := decide_eq_false c15
              clear c15
              by_cases c19 : a0 < 0
              · rw [if_pos c19] at H
                have c19b0 : decide (a0 < 0) = true := decide_eq_true c19
                clear c19
                by_cases c20 : a1 ≤ a0
                · rw [if_pos c20] at H
                  have c20b0 : decide (a1 ≤ a0) = true := decide_eq_true c20
                  clear c20
                  have H' := Aside0.mk H
                  clear H
                  go_wp2
                  go_meet
                  case rel => exact ⟨_, (decide (t191 > t192)), (by first | rfl | (simp; done) | (simp [*]; done)), H', ⟨by have := HJ5.out; first | omega | exact Nat.le_refl _⟩, ⟨by repeat (first | (with_reducible first | exact HB.out | apply below_alloc | apply pw_below_drewN | apply below_drew1) | exact HB.out)⟩⟩
                · rw [if_neg c20] at H
                  have c20b0 : decide (a1 ≤ a0) = false := decide_eq_false c20
                  clear c20
                  have H' := Aside0.mk H
                  clear H
                  go_wp2
                  go_meet
                  case rel => exact ⟨_, (false), (by first | rfl | (simp; done) | (simp [*]; done)), H', ⟨by have := HJ5.out; first | omega | exact Nat.le_refl _⟩, ⟨by repeat (first | (with_reducible first | exact HB.out | apply below_alloc | apply pw_below_drewN | apply below_drew1) | exact HB.out)⟩⟩
              · rw [if_neg c19] at H
                have c19b0 : decide (a0 < 0) = false := decide_eq_false c19
                clear c19
                have H' := Aside0.mk H
                clear H
                go_wp2
                go_meet
                case rel => exact ⟨_, (false), (by first | rfl | (simp; done) | (simp [*]; done)), H', ⟨by have := HJ5.out; first | omega | exact Nat.le_refl _⟩, ⟨by repeat (first | (with_reducible first | exact HB.out | apply below_alloc | apply pw_below_drewN | apply below_drew1) | exact HB.out)⟩⟩
          · rw [if_neg c14] at H
            have c14b0 : decide (0 ≤ a0) = false := decide_eq_false c14
            clear c14
            (first | rw [c14b0] | (simp only [i64_w, i32_w]; rw [c14b0]) | skip)
            by_cases c21 : a0 < 0
            · rw [if_pos c21] at H
              have c21b0 : decide (a0 < 0) = true := decide_eq_true c21
              clear c21
              by_cases c22 : a1 ≤ a0
              · rw [if_pos c22] at H
                have c22b0 : decide (a1 ≤ a0) = true := decide_eq_true c22
                clear c22
                have H' := Aside0.mk H
                clear H
                go_wp2
                go_meet
                case rel => exact ⟨_, (decide (t191 > t192)), (by first | rfl | (simp; done) | (simp [*]; done)), H', ⟨by have := HJ5.out; first | omega | exact Nat.le_refl _⟩, ⟨by repeat (first | (with_reducible first | exact HB.out | apply below_alloc | apply pw_below_drewN | apply below_drew1) | exact HB.out)⟩⟩
              · rw [if_neg c22] at H
                have c22b0 : decide (a1 ≤ a0) = false := decide_eq_false c22
                clear c22
                have H' := Aside0.mk H
                clear H
                go_wp2
                go_meet
                case rel => exact ⟨_, (false), (by first | rfl | (simp; done) | (simp [*]; done)), H', ⟨by have := HJ5.out; first | omega | exact Nat.le_refl _⟩, ⟨by repeat (first | (with_reducible first | exact HB.out | apply below_alloc | apply pw_below_drewN | apply below_drew1) | exact HB.out)⟩⟩
            · rw [if_neg c21] at H
              have c21b0 : decide (a0 < 0) = false := decide_eq_false c21
              clear c21
              have H' := Aside0.mk H
              clear H
              go_wp2
              go_meet
              case rel => exact ⟨_, (false), (by first | rfl | (simp; done) | (simp [*]; done)), H', ⟨by have := HJ5.out; first | omega | exact Nat.le_refl _⟩, ⟨by repeat (first | (with_reducible first | exact HB.out | apply below_alloc | apply pw_below_drewN | apply below_drew1) | exact HB.out)⟩⟩
        case rest =>
          clear HC13
          try clear c1
          try clear c2
          try clear p2
          try clear c5
          try clear c8
          try clear c9
          try clear c9b0
          try clear c10
          try clear c10b0
          try clear c11
          try clear c11b0
          try clear c12
          try clear c14
          try clear c14b0
          try clear c15
          try clear c15b0
          try clear c16
          try clear c16b0
          try clear c17
          try clear c17b0
          try clear c18
          try clear c18b0
          try clear c19
          try clear c19b0
          try clear c20
          try clear c20b0
          try clear c21
          try clear c21b0
          try clear c22
          try clear c22b0
          try clear p2
          obtain ⟨kq, x57_12, rfl, HA, HJ12, HB⟩ := hcut
          cases kq with
          | zero => exact absurd HA.out (by simp [winnowerlaw01_NumShort.j1])
          | succ kj12 =>
            have H := HA.out
            clear HA
            simp only [winnowerlaw01_NumShort.j1] at H
            by_cases c23 : x57_12 = true
            · subst c23
              have H1 : (some false) = some r := by rw [if_pos rfl] at H; exact H
              clear H
              have H := H1
              clear H1
              obtain rfl := Option.some.inj H
              go_wp2
              go_ret
              exact ⟨by first | rfl | (simp [errW_none, errW_some] <;> rfl) | (simp [*, errW_none, errW_some] <;> rfl), by repeat (first | (with_reducible first | exact HB.out | apply below_alloc | apply pw_below_drewN | apply below_drew1) | exact HB.out)⟩
            · replace c23 := Bool.eq_false_iff.mpr c23
              subst c23
              have H1 : (if a0 = (wrap64 (-a0)) then (some true) else ((num_Size.f (wrap64 (-a0))).bind fun t193 => (if (wrap64 (t193 - t191)) ≤ 1 then (some (decide ((wrap64 (t191 - t193)) ≤ 1))) else (some false)))) = some r := by rw [if_neg (show ¬ (false = true) by decide)] at H; exact H
              clear H
              have H := H1
              clear H1
              by_cases c24 : a0 = (wrap64 (-a0))
              · rw [if_pos c24] at H
                have c24b0 : (a0 == (wrap64 (-a0))) = true := beq_iff_eq.mpr c24
                have c24b1 : (a0 != (wrap64 (-a0))) = false := bne_eq_false_iff_eq.mpr c24
                clear c24
                obtain rfl := Option.some.inj H
                go_wp2
                go_ret
                exact ⟨by first | rfl | (simp [errW_none, errW_some] <;> rfl) | (simp [*, errW_none, errW_some] <;> rfl), by repeat (first | (with_reducible first | exact HB.out | apply below_alloc | apply pw_below_drewN | apply below_drew1) | exact HB.out)⟩
              · rw [if_neg c24] at H
                have c24b0 : (a0 == (wrap64 (-a0))) = false := beq_eq_false_iff_ne.mpr c24
                have c24b1 : (a0 != (wrap64 (-a0))) = true := bne_iff_ne.mpr c24
                replace H := Option.bind_eq_some_iff.mp H
                obtain ⟨t193, A250, H⟩ := H
                replace H : (if (wrap64 (t193 - t191)) ≤ 1 then (some (decide ((wrap64 (t191 - t193)) ≤ 1))) else (some false)) = some r := H
                have A25 := Aside0.mk A250
                clear A250
                by_cases c26 : (wrap64 (t193 - t191)) ≤ 1
                · rw [if_pos c26] at H
                  have c26b0 : decide ((wrap64 (t193 - t191)) ≤ 1) = true := decide_eq_true c26
                  clear c26
                  obtain rfl := Option.some.inj H
                  go_wp2_with (first | ((with_reducible refine gate_callee (f := 15) rfl ?_); refine goesL_ (some 64) rfl rfl Try.func15 (by kernel_rfl) rfl #[.int .i64 (wrap64 (-a0))] rfl (by (try simp only [List.map_toArray, List.map_cons, List.map_nil]); first | done | rfl | (simp only [List.length_drop, List.length_take]; rfl)) ?_; (with_reducible refine (num_Size.calls (wrap64 (-a0)) t193 _ A25.out).mono ?_); rintro e w' ⟨rfl, ⟨nd, rfl⟩⟩; refine ⟨_, rfl, ?_⟩))
                  go_ret
                  exact ⟨by first | rfl | (simp [errW_none, errW_some] <;> rfl) | (simp [*, errW_none, errW_some] <;> rfl), by repeat (first | (with_reducible first | exact HB.out | apply below_alloc | apply pw_below_drewN | apply below_drew1) | exact HB.out)⟩
                · rw [if_neg c26] at H
                  have c26b0 : decide ((wrap64 (t193 - t191)) ≤ 1) = false := decide_eq_false c26
                  clear c26
                  obtain rfl := Option.some.inj H
                  go_wp2_with (first | ((with_reducible refine gate_callee (f := 15) rfl ?_); refine goesL_ (some 64) rfl rfl Try.func15 (by kernel_rfl) rfl #[.int .i64 (wrap64 (-a0))] rfl (by (try simp only [List.map_toArray, List.map_cons, List.map_nil]); first | done | rfl | (simp only [List.length_drop, List.length_take]; rfl)) ?_; (with_reducible refine (num_Size.calls (wrap64 (-a0)) t193 _ A25.out).mono ?_); rintro e w' ⟨rfl, ⟨nd, rfl⟩⟩; refine ⟨_, rfl, ?_⟩))
                  go_ret
                  exact ⟨by first | rfl | (simp [errW_none, errW_some] <;> rfl) | (simp [*, errW_none, errW_some] <;> rfl), by repeat (first | (with_reducible first | exact HB.out | apply below_alloc | apply pw_below_drewN | apply below_drew1) | exact HB.out)⟩

/-- THE ONE PURE STATEMENT of winnowerlaw01_NumShort: yours. -/
def winnowerlaw01_NumShort.Pure : Prop := ∀ (a0 : Int) (a1 : Int), (Lit.int .i64 a0).wf = true → (Lit.int .i64 a1).wf = true → ∃ k, winnowerlaw01_NumShort.f k a0 a1 = some true
theorem winnowerlaw01_NumShort.walk (P : winnowerlaw01_NumShort.Pure) (a0 : Int) (a1 : Int) (w : World) (w0 : (Lit.int .i64 a0).wf = true) (w1 : (Lit.int .i64 a1).wf = true) :
    Calls Try.prog 5 #[.int .i64 a0, .int .i64 a1] w fun e w' => e = .returned (.bool true) ∧ Below w.heap.size w w' := by
  obtain ⟨k, h⟩ := P a0 a1 w0 w1
  refine (winnowerlaw01_NumShort.calls k a0 a1 true w h).mono ?_
  rintro e w' ⟨rfl, hd⟩
  exact ⟨rfl, hd⟩

/-! ### num_GetLen: function 17 -/
def num_GetLen.f (l0 : List Int) : Option (Int × Int × Int) := (num_get.f l0).bind fun bt194 => (if bt194.2.2 = 0 then (if bt194.1 > 9223372036854775807 then (some (0, 0, 7)) else (some (wrap64 (bt194.1), bt194.2.1, bt194.2.2))) else (some (wrap64 (bt194.1), bt194.2.1, bt194.2.2)))
set_option maxHeartbeats 8000000 in
set_option maxRecDepth 100000 in
theorem num_GetLen.calls (A0 : Option Addr) (c0 : Nat) (l0 : List Int) (r1 : Int) (r2 : Int) (r3 : Int) (w : World) (hr0 : Kd.C (Kd.int .u8) w A0 l0.length l0) (hc0 : l0.length ≤ c0) (h : num_GetLen.f l0 = some (r1, r2, r3)) :
    Calls Try.prog 17 #[.slice A0 l0.length c0] w fun e w' => e = .returned (.tuple #[.int .i64 r1, .int .i64 r2, .int .i64 r3]) ∧ Drawn0 w w' := by
  have HR0 := Aside0.mk hr0
  have HC0 := Aside0.mk hc0
  clear hr0 hc0
  have H : ((num_get.f l0).bind fun bt194 => (if bt194.2.2 = 0 then (if bt194.1 > 9223372036854775807 then (some (0, 0, 7)) else (some (wrap64 (bt194.1), bt194.2.1, bt194.2.2))) else (some (wrap64 (bt194.1), bt194.2.1, bt194.2.2)))) = some (r1, r2, r3) := h
  clear h
  replace H := Option.bind_eq_some_iff.mp H
  obtain ⟨⟨t194, t195, t196⟩, A20, H⟩ := H
  replace H : (if t196 = 0 then (if t194 > 9223372036854775807 then (some (0, 0, 7)) else (some (wrap64 (t194), t195, t196))) else (some (wrap64 (t194), t195, t196))) = some (r1, r2, r3) := H
  have A2 := Aside0.mk A20
  clear A20
  by_cases c3 : t196 = 0
  · rw [if_pos c3] at H
    have c3b0 : (t196 == 0) = true := beq_iff_eq.mpr c3
    have c3b1 : (t196 != 0) = false := bne_eq_false_iff_eq.mpr c3
    clear c3
    by_cases c4 : t194 > 9223372036854775807
    · rw [if_pos c4] at H
      have c4b0 : decide (9223372036854775807 < t194) = true := decide_eq_true c4
      clear c4
      simp only [Option.some.injEq, Prod.mk.injEq] at H
      obtain ⟨rfl, rfl, rfl⟩ := H
      go_enter Try.func17, Try.ntmps17
      go_wp2_with (first | ((with_reducible refine gate_callee (f := 21) rfl ?_); refine goesL_ (some 10) rfl rfl Try.func21 (by kernel_rfl) rfl #[.slice A0 l0.length c0] rfl (by (try simp only [List.map_toArray, List.map_cons, List.map_nil]); first | done | rfl | (simp only [List.length_drop, List.length_take]; rfl)) ?_; (with_reducible refine (num_get.calls _ _ l0 t194 t195 t196 _ ?side1 ?side2 A2.out).mono ?_); (case side1 => repeat (first | exact HR0.out | (with_reducible refine Kd.C_alloc ?_ _) | (with_reducible refine Kd.C_drewN ?_ _) | (with_reducible refine Kd.C_drew ?_))); (case side2 => exact HC0.out); rintro e w' ⟨rfl, ⟨nd, rfl⟩⟩; refine ⟨_, rfl, ?_⟩))
      go_ret3
      exact ⟨by first | rfl | (simp; done) | (simp [*]; done), by repeat (first | exact Drawn0.refl _ | apply Drawn0.step)⟩
    · rw [if_neg c4] at H
      have c4b0 : decide (9223372036854775807 < t194) = false := decide_eq_false c4
      clear c4
      simp only [Option.some.injEq, Prod.mk.injEq] at H
      obtain ⟨rfl, rfl, rfl⟩ := H
      go_enter Try.func17, Try.ntmps17
      go_wp2_with (first | ((with_reducible refine gate_callee (f := 21) rfl ?_); refine goesL_ (some 10) rfl rfl Try.func21 (by kernel_rfl) rfl #[.slice A0 l0.length c0] rfl (by (try simp only [List.map_toArray, List.map_cons, List.map_nil]); first | done | rfl | (simp only [List.length_drop, List.length_take]; rfl)) ?_; (with_reducible refine (num_get.calls _ _ l0 t194 t195 t196 _ ?side1 ?side2 A2.out).mono ?_); (case side1 => repeat (first | exact HR0.out | (with_reducible refine Kd.C_alloc ?_ _) | (with_reducible refine Kd.C_drewN ?_ _) | (with_reducible refine Kd.C_drew ?_))); (case side2 => exact HC0.out); rintro e w' ⟨rfl, ⟨nd, rfl⟩⟩; refine ⟨_, rfl, ?_⟩))
      go_ret3
      exact ⟨by first | rfl | (simp; done) | (simp [*]; done), by repeat (first | exact Drawn0.refl _ | apply Drawn0.step)⟩
  · rw [if_neg c3] at H
    have c3b0 : (t196 == 0) = false := beq_eq_false_iff_ne.mpr c3
    have c3b1 : (t196 != 0) = true := bne_iff_ne.mpr c3
    simp only [Option.some.injEq, Prod.mk.injEq] at H
    obtain ⟨rfl, rfl, rfl⟩ := H
    go_enter Try.func17, Try.ntmps17
    go_wp2_with (first | ((with_reducible refine gate_callee (f := 21) rfl ?_); refine goesL_ (some 10) rfl rfl Try.func21 (by kernel_rfl) rfl #[.slice A0 l0.length c0] rfl (by (try simp only [List.map_toArray, List.map_cons, List.map_nil]); first | done | rfl | (simp only [List.length_drop, List.length_take]; rfl)) ?_; (with_reducible refine (num_get.calls _ _ l0 t194 t195 t196 _ ?side1 ?side2 A2.out).mono ?_); (case side1 => repeat (first | exact HR0.out | (with_reducible refine Kd.C_alloc ?_ _) | (with_reducible refine Kd.C_drewN ?_ _) | (with_reducible refine Kd.C_drew ?_))); (case side2 => exact HC0.out); rintro e w' ⟨rfl, ⟨nd, rfl⟩⟩; refine ⟨_, rfl, ?_⟩))
    go_ret3
    exact ⟨by first | rfl | (simp; done) | (simp [*]; done), by repeat (first | exact Drawn0.refl _ | apply Drawn0.step)⟩

end Go.Proofs.Ytdbdgcnblpeciaa.Q
