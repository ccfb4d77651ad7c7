/- The machine side of laws, written by wip/tools/myprint.py (the printer's way, with functions proved by hand put in); Lean checks it. -/
import Derived.Test.YteaiaeejdcmefaaDoorSx0
import Derived.Test.YteaiaeejdcmefaaDoorSx3
import Derived.Test.YteaiaeejdcmefaaDoorSx4
import Derived.Test.YteaiaeejdcmefaaDoorSx5
import Derived.Test.YteaiaeejdcmefaaDoorSx6
import Derived.Test.YteaiaeejdcmefaaDoorSx9
import Derived.Test.YteaiaeejdcmefaaDoorSx11
import Derived.Test.YteaiaeejdcmefaaDoorSx12
import Derived.Test.YteaiaeejdcmefaaDoorSx13
import Derived.Test.YteaiaeejdcmefaaDoorSx14
namespace Go.Proofs.YteaiaeejdcmefaaDoor.S
open Go.RowKit Go.Proofs.YteaiaeejdcmefaaDoorW.PrintWords Go.Proofs.YteaiaeejdcmefaaDoorW.PrintLast Go.Proofs.YteaiaeejdcmefaaDoorW.PrintMore
attribute [local go_sem] max2_int min2_int max_two min_two max_three min_three max_four min_four   -- for this text's walks alone
set_option linter.unusedVariables false
set_option linter.unusedSimpArgs false

/-! ### winnowerlaw09_BitsetLaws: function 3 -/
def winnowerlaw09_BitsetLaws.j0 : Nat → List Int → List Int → List Int → Int → Bool → Bool → Option (Bool)
  | 0, _, _, _, _, _, _ => none
  | k + 1, x0, x1, x2, x3, x9, x34 => if x34 = true then (some x9) else ((bitset_Of.f x0).bind fun t160 => ((bitset_Of.f x1).bind fun t164 => ((bitset_Of.f x2).bind fun t168 => ((bitset_Set_And.f t160 t164).bind fun t172 => ((bitset_Set_Not.f t172 x3).bind fun t175 => ((bitset_Set_Not.f t160 x3).bind fun t178 => ((bitset_Set_Not.f t164 x3).bind fun t181 => ((bitset_Set_Or.f t178 t181).bind fun t184 => ((bitset_Same.f k t175 t184).bind fun t187 => ((bitset_Set_Or.f t160 t164).bind fun t188 => ((bitset_Set_Not.f t188 x3).bind fun t191 => ((bitset_Set_Not.f t160 x3).bind fun t194 => ((bitset_Set_Not.f t164 x3).bind fun t197 => ((bitset_Set_And.f t194 t197).bind fun t200 => ((bitset_Same.f k t191 t200).bind fun t203 => ((bitset_Set_Or.f t164 t168).bind fun t204 => ((bitset_Set_And.f t160 t204).bind fun t207 => ((bitset_Set_And.f t160 t164).bind fun t210 => ((bitset_Set_And.f t160 t168).bind fun t213 => ((bitset_Set_Or.f t210 t213).bind fun t216 => ((bitset_Same.f k t207 t216).bind fun t219 => ((bitset_Set_Not.f t160 x3).bind fun t220 => ((bitset_Set_Not.f t220 x3).bind fun t223 => ((bitset_Upto.f x3).bind fun t226 => ((bitset_Set_And.f t160 t226).bind fun t229 => ((bitset_Same.f k t223 t229).bind fun t232 => (if t187 = true then (if t203 = true then (if t219 = true then (if t232 = true then ((bitset_Set_And.f t160 t164).bind fun t233 => ((bitset_Set_Count.f k t233).bind fun t236 => ((bitset_Set_Or.f t160 t164).bind fun t237 => ((bitset_Set_Count.f k t237).bind fun t240 => ((bitset_Set_Count.f k t160).bind fun t241 => ((bitset_Set_Count.f k t164).bind fun t242 => (if (wrap64 (t236 + t240)) = (wrap64 (t241 + t242)) then ((bitset_Set_Not.f t160 x3).bind fun t243 => ((bitset_Set_And.f t243 t160).bind fun t246 => ((bitset_Set_Count.f k t246).bind fun t249 => (some (t249 == 0))))) else (some false)))))))) else (some false)) else (some false)) else (some false)) else (some false))))))))))))))))))))))))))))
def winnowerlaw09_BitsetLaws.f (k : Nat) (l0 : List Int) (l1 : List Int) (l2 : List Int) (a3 : Int) : Option (Bool) := (winnowerlaw09_awake.f k).bind fun t159 => (if t159 = true then (if (l0.length : Int) > 60 then (winnowerlaw09_BitsetLaws.j0 k l0 l1 l2 a3 t159 true) else (if (l1.length : Int) > 60 then (winnowerlaw09_BitsetLaws.j0 k l0 l1 l2 a3 t159 true) else (winnowerlaw09_BitsetLaws.j0 k l0 l1 l2 a3 t159 (decide ((l2.length : Int) > 60))))) else (winnowerlaw09_BitsetLaws.j0 k l0 l1 l2 a3 t159 true))
theorem winnowerlaw09_BitsetLaws.mono_l : ∀ k, (∀ y0 y1 y2 y3 y4 y5, LeO (winnowerlaw09_BitsetLaws.j0 k y0 y1 y2 y3 y4 y5) (winnowerlaw09_BitsetLaws.j0 (k + 1) y0 y1 y2 y3 y4 y5))
  | 0 => fun _ _ _ _ _ _ r h => by simp [winnowerlaw09_BitsetLaws.j0] at h
  | k + 1 => by
    have ih0 := winnowerlaw09_BitsetLaws.mono_l k
    · intro y0 y1 y2 y3 y4 y5
      unfold winnowerlaw09_BitsetLaws.j0
      repeat' first
      | (with_reducible exact ih0 _ _ _ _ _ _)
      | (with_reducible exact bitset_Same.mono _ _ _)
      | (with_reducible exact bitset_Set_Count.mono _ _)
      | (with_reducible exact winnowerlaw09_awake.mono _)
      | (with_reducible exact LeO.refl _)
      | (with_reducible exact LeO.none _)
      | (with_reducible refine LeO.ite ?_ ?_)
      | (with_reducible refine LeO.bind ?_ (fun _ => ?_))
      | exact ih0 _ _ _ _ _ _
      | exact bitset_Same.mono _ _ _
      | exact bitset_Set_Count.mono _ _
      | exact winnowerlaw09_awake.mono _
      | exact LeO.none _
      | refine LeO.ite ?_ ?_
      | refine LeO.bind ?_ (fun _ => ?_)
theorem winnowerlaw09_BitsetLaws.mono : ∀ a0 a1 a2 a3 k, LeO (winnowerlaw09_BitsetLaws.f k a0 a1 a2 a3) (winnowerlaw09_BitsetLaws.f (k + 1) a0 a1 a2 a3) := by
  intro a0 a1 a2 a3 k
  have ih0 := winnowerlaw09_BitsetLaws.mono_l k
  unfold winnowerlaw09_BitsetLaws.f
  repeat' first
      | (with_reducible exact ih0 _ _ _ _ _ _)
      | (with_reducible exact bitset_Same.mono _ _ _)
      | (with_reducible exact bitset_Set_Count.mono _ _)
      | (with_reducible exact winnowerlaw09_awake.mono _)
      | (with_reducible exact LeO.refl _)
      | (with_reducible exact LeO.none _)
      | (with_reducible refine LeO.ite ?_ ?_)
      | (with_reducible refine LeO.bind ?_ (fun _ => ?_))
      | exact ih0 _ _ _ _ _ _
      | exact bitset_Same.mono _ _ _
      | exact bitset_Set_Count.mono _ _
      | exact winnowerlaw09_awake.mono _
      | exact LeO.none _
      | refine LeO.ite ?_ ?_
      | refine LeO.bind ?_ (fun _ => ?_)
def winnowerlaw09_BitsetLaws.T7 : Bool × List (List Nat × List Nat) := (true, [([], []), ([], []), ([0, 1], [0, 1]), ([], []), ([2, 3, 2], [2, 3]), ([], []), ([], []), ([5, 6, 4], [5, 6]), ([], []), ([], []), ([8, 9, 7], [8, 9]), ([7, 10, 10], [7, 10]), ([4, 11, 11], [4, 11]), ([12, 12, 0, 1, 2, 3, 4, 5, 6, 7, 8, 9, 10, 11, 12], [12])])
def winnowerlaw09_BitsetLaws.B7 : List Nat := [0, 0, 3, 0, 15, 0, 0, 127, 0, 0, 1023, 2047, 4095, 8191]
theorem winnowerlaw09_BitsetLaws.tab7 : rtab .any (opsOf Tryd.f3 7) = winnowerlaw09_BitsetLaws.T7 := by kernel_rfl
theorem winnowerlaw09_BitsetLaws.bits7 : waitsOk winnowerlaw09_BitsetLaws.T7.2 winnowerlaw09_BitsetLaws.B7 = true := by kernel_rfl
def winnowerlaw09_BitsetLaws.T8 : Bool × List (List Nat × List Nat) := (true, [([], []), ([], []), ([0, 1], [0, 1]), ([], []), ([2, 3, 2], [2, 3]), ([], []), ([], []), ([5, 6, 4], [5, 6]), ([], []), ([], []), ([8, 9, 7], [8, 9]), ([7, 10, 10], [7, 10]), ([4, 11, 11], [4, 11]), ([12, 12, 0, 1, 2, 3, 4, 5, 6, 7, 8, 9, 10, 11, 12], [12])])
def winnowerlaw09_BitsetLaws.B8 : List Nat := [0, 0, 3, 0, 15, 0, 0, 127, 0, 0, 1023, 2047, 4095, 8191]
theorem winnowerlaw09_BitsetLaws.tab8 : rtab .any (opsOf Tryd.f3 8) = winnowerlaw09_BitsetLaws.T8 := by kernel_rfl
theorem winnowerlaw09_BitsetLaws.bits8 : waitsOk winnowerlaw09_BitsetLaws.T8.2 winnowerlaw09_BitsetLaws.B8 = true := by kernel_rfl
def winnowerlaw09_BitsetLaws.T9 : Bool × List (List Nat × List Nat) := (true, [([], []), ([], []), ([], []), ([1, 2], [1, 2]), ([0, 3, 3], [0, 3]), ([], []), ([], []), ([5, 6, 4], [5, 6]), ([], []), ([], []), ([8, 9, 7], [8, 9]), ([7, 10, 10], [7, 10]), ([4, 11, 11], [4, 11]), ([12, 12, 0, 1, 2, 3, 4, 5, 6, 7, 8, 9, 10, 11, 12], [12])])
def winnowerlaw09_BitsetLaws.B9 : List Nat := [0, 0, 0, 6, 15, 0, 0, 127, 0, 0, 1023, 2047, 4095, 8191]
theorem winnowerlaw09_BitsetLaws.tab9 : rtab .any (opsOf Tryd.f3 9) = winnowerlaw09_BitsetLaws.T9 := by kernel_rfl
theorem winnowerlaw09_BitsetLaws.bits9 : waitsOk winnowerlaw09_BitsetLaws.T9.2 winnowerlaw09_BitsetLaws.B9 = true := by kernel_rfl
def winnowerlaw09_BitsetLaws.T10 : Bool × List (List Nat × List Nat) := (true, [([], []), ([], []), ([0, 1], [0, 1]), ([], []), ([2, 3, 2], [2, 3]), ([], []), ([], []), ([6, 4], [6]), ([5, 7, 7], [5, 7]), ([4, 8, 8], [4, 8]), ([9, 9, 0, 1, 2, 3, 4, 5, 6, 7, 8, 9], [9])])
def winnowerlaw09_BitsetLaws.B10 : List Nat := [0, 0, 3, 0, 15, 0, 0, 95, 255, 511, 1023]
theorem winnowerlaw09_BitsetLaws.tab10 : rtab .any (opsOf Tryd.f3 10) = winnowerlaw09_BitsetLaws.T10 := by kernel_rfl
theorem winnowerlaw09_BitsetLaws.bits10 : waitsOk winnowerlaw09_BitsetLaws.T10.2 winnowerlaw09_BitsetLaws.B10 = true := by kernel_rfl
def winnowerlaw09_BitsetLaws.T11 : Bool × List (List Nat × List Nat) := (true, [([], []), ([0], [0]), ([1], [1]), ([1, 2], [1, 2]), ([3, 1], [3]), ([4], [4]), ([4, 5], [4, 5]), ([6, 4], [6]), ([7], [7]), ([7, 8], [7, 8]), ([9, 7], [9]), ([10], [10]), ([10], [10]), ([11, 12, 10, 10], [10, 11, 12]), ([13, 13, 10], [10, 13]), ([10], [10]), ([10], [10]), ([15, 16, 14, 10], [10, 15, 16]), ([17, 17, 10], [10, 17]), ([14, 18, 10], [10, 14, 18]), ([10], [10]), ([20, 18, 10], [10, 20]), ([10], [10]), ([22, 21, 10], [10, 22]), ([21, 23, 10], [10, 21, 23]), ([19, 24, 10], [10, 19, 24]), ([10, 25], [10, 25]), ([26, 23], [26]), ([27], [27]), ([27], [27]), ([28, 29, 27, 27], [27, 28, 29]), ([27], [27]), ([30, 31, 30, 27], [27, 30, 31]), ([32, 32, 27], [27, 32]), ([33, 27], [27, 33]), ([27, 34], [27, 34]), ([35, 33, 0, 1, 2, 3, 4, 5, 6, 7, 8, 9, 10, 11, 12, 13, 14, 15, 16, 17, 18, 19, 20, 21, 22, 23, 24, 25, 26, 27, 28, 29, 30, 31, 32, 33, 34, 35], [35])])
def winnowerlaw09_BitsetLaws.B11 : List Nat := [0, 1, 3, 7, 15, 31, 63, 127, 255, 511, 1023, 2047, 2047, 8191, 16383, 2047, 2047, 131071, 262143, 524287, 2047, 1572863, 2047, 7864319, 16252927, 33554431, 67108863, 134217727, 268435455, 268435455, 1073741823, 268435455, 4294967295, 8589934591, 17179869183, 34359738367, 68719476735]
theorem winnowerlaw09_BitsetLaws.tab11 : rtab .any (opsOf Tryd.f3 11) = winnowerlaw09_BitsetLaws.T11 := by kernel_rfl
theorem winnowerlaw09_BitsetLaws.bits11 : waitsOk winnowerlaw09_BitsetLaws.T11.2 winnowerlaw09_BitsetLaws.B11 = true := by kernel_rfl
set_option maxHeartbeats 8000000 in
set_option maxRecDepth 100000 in
theorem winnowerlaw09_BitsetLaws.calls (k : Nat) (A0 : Option Addr) (c0 : Nat) (l0 : List Int) (A1 : Option Addr) (c1 : Nat) (l1 : List Int) (A2 : Option Addr) (c2 : Nat) (l2 : List Int) (a3 : Int) (r : Bool) (w : World) (hr0 : Kd.C (Kd.int .i64) w A0 l0.length l0) (hc0 : l0.length ≤ c0) (hr1 : Kd.C (Kd.int .i64) w A1 l1.length l1) (hc1 : l1.length ≤ c1) (hr2 : Kd.C (Kd.int .i64) w A2 l2.length l2) (hc2 : l2.length ≤ c2) (hG : Globs w) (hT_ : r = true) (h : winnowerlaw09_BitsetLaws.f k l0 l1 l2 a3 = some r) :
    Calls Tryd.prog 3 #[.slice A0 l0.length c0, .slice A1 l1.length c1, .slice A2 l2.length c2, .int .i64 a3] w fun e w' => e = .returned (.bool r) ∧ Below w.heap.size w w' := by
  have hu26 := Tryd.underlying26
  have HR0 := Aside0.mk hr0
  have HC0 := Aside0.mk hc0
  clear hr0 hc0
  have HR1 := Aside0.mk hr1
  have HC1 := Aside0.mk hc1
  clear hr1 hc1
  have HR2 := Aside0.mk hr2
  have HC2 := Aside0.mk hc2
  clear hr2 hc2
  have HGL := Aside0.mk hG
  clear hG
  have HTRUE := Aside0.mk hT_
  clear hT_
  have HB := Aside0.mk (Below.refl w.heap.size w)
  have H : ((winnowerlaw09_awake.f k).bind fun t159 => (if t159 = true then (if (l0.length : Int) > 60 then (winnowerlaw09_BitsetLaws.j0 k l0 l1 l2 a3 t159 true) else (if (l1.length : Int) > 60 then (winnowerlaw09_BitsetLaws.j0 k l0 l1 l2 a3 t159 true) else (winnowerlaw09_BitsetLaws.j0 k l0 l1 l2 a3 t159 (decide ((l2.length : Int) > 60))))) else (winnowerlaw09_BitsetLaws.j0 k l0 l1 l2 a3 t159 true))) = some r := h
  clear h
  replace H := Option.bind_eq_some_iff.mp H
  obtain ⟨t159, A50, H⟩ := H
  replace H : (if t159 = true then (if (l0.length : Int) > 60 then (winnowerlaw09_BitsetLaws.j0 k l0 l1 l2 a3 t159 true) else (if (l1.length : Int) > 60 then (winnowerlaw09_BitsetLaws.j0 k l0 l1 l2 a3 t159 true) else (winnowerlaw09_BitsetLaws.j0 k l0 l1 l2 a3 t159 (decide ((l2.length : Int) > 60))))) else (winnowerlaw09_BitsetLaws.j0 k l0 l1 l2 a3 t159 true)) = some r := H
  have A5 := Aside0.mk A50
  clear A50
  have HC6 := Aside0.mk H
  clear H
  go_enter Tryd.func3, Tryd.ntmps3
  go_upto_region 2 with (first | ((with_reducible refine gate_callee (f := 7) rfl ?_); refine goesL_ (some 17) rfl rfl Tryd.func7 (by kernel_rfl) rfl #[] rfl (by (try simp only [List.map_toArray, List.map_cons, List.map_nil]); first | done | rfl | (simp only [List.length_drop, List.length_take]; rfl)) ?_; (with_reducible refine (winnowerlaw09_awake.calls k  t159 _ ?side1 A5.out).mono ?_); (case side1 => exact globs_below HGL.out (by repeat (first | (with_reducible first | exact HB.out | apply below_alloc | apply pw_below_drewN | apply below_drew1) | exact HB.out))); rintro e w7 ⟨rfl, hb⟩; refine ⟨_, rfl, ?_⟩; have n0_ := Aside0.mk (below_step (by repeat (first | (with_reducible first | exact HB.out | apply below_alloc | apply pw_below_drewN | apply below_drew1) | exact HB.out)) hb); clear HB; have HB := n0_; clear n0_; (try clear hb); (try clear hb2); (try clear hk); (try clear hi)))
  (try simp only [Act.put, List.setIfInBounds_toArray, List.set_cons_zero, List.set_cons_succ])
  go_cut [34] (fun v34 wc => ∃ (kq : Nat) (x34_5 : Bool), v34 = .bool x34_5 ∧ Aside0 (winnowerlaw09_BitsetLaws.j0 kq l0 l1 l2 a3 t159 x34_5 = some r) ∧ Aside0 (kq ≤ k) ∧ Aside0 (Below w.heap.size w wc))
  case first =>
    have H := HC6.out
    clear HC6
    by_cases c8 : t159 = true
    · subst c8
      have H1 : (if (l0.length : Int) > 60 then (winnowerlaw09_BitsetLaws.j0 k l0 l1 l2 a3 true true) else (if (l1.length : Int) > 60 then (winnowerlaw09_BitsetLaws.j0 k l0 l1 l2 a3 true true) else (winnowerlaw09_BitsetLaws.j0 k l0 l1 l2 a3 true (decide ((l2.length : Int) > 60))))) = some r := by rw [if_pos rfl] at H; exact H
      clear H
      have H := H1
      clear H1
      by_cases c9 : (l0.length : Int) > 60
      · rw [if_pos c9] at H
        have c9b0 : decide (60 < (l0.length : Int)) = true := decide_eq_true c9
        have c9b1 : decide (60 < l0.length) = true := decide_eq_true (by omega)
        clear c9
        (first | rw [c9b0] | (simp only [i64_w, i32_w]; rw [c9b0]) | skip)
        have H' := Aside0.mk H
        clear H
        go_wp2
        go_meet
        case rel => exact ⟨_, (true), (by first | rfl | (simp; done) | (simp [*]; done)), H', ⟨by first | omega | exact Nat.le_refl _⟩, ⟨by repeat (first | (with_reducible first | exact HB.out | apply below_alloc | apply pw_below_drewN | apply below_drew1) | exact HB.out)⟩⟩
      · rw [if_neg c9] at H
        have c9b0 : decide (60 < (l0.length : Int)) = false := decide_eq_false c9
        have c9b1 : decide (60 < l0.length) = false := decide_eq_false (by omega)
        clear c9
        (first | rw [c9b0] | (simp only [i64_w, i32_w]; rw [c9b0]) | skip)
        by_cases c10 : (l1.length : Int) > 60
        · rw [if_pos c10] at H
          have c10b0 : decide (60 < (l1.length : Int)) = true := decide_eq_true c10
          have c10b1 : decide (60 < l1.length) = true := decide_eq_true (by omega)
          clear c10
          have H' := Aside0.mk H
          clear H
          go_wp2
          go_meet
          case rel => exact ⟨_, (true), (by first | rfl | (simp; done) | (simp [*]; done)), H', ⟨by first | omega | exact Nat.le_refl _⟩, ⟨by repeat (first | (with_reducible first | exact HB.out | apply below_alloc | apply pw_below_drewN | apply below_drew1) | exact HB.out)⟩⟩
        · rw [if_neg c10] at H
          have c10b0 : decide (60 < (l1.length : Int)) = false := decide_eq_false c10
          have c10b1 : decide (60 < l1.length) = false := decide_eq_false (by omega)
          clear c10
          have H' := Aside0.mk H
          clear H
          go_wp2
          go_meet
          case rel => exact ⟨_, (decide ((l2.length : Int) > 60)), (by first | rfl | (simp; done) | (simp [*]; done)), H', ⟨by first | omega | exact Nat.le_refl _⟩, ⟨by repeat (first | (with_reducible first | exact HB.out | apply below_alloc | apply pw_below_drewN | apply below_drew1) | exact HB.out)⟩⟩
    · replace c8 := Bool.eq_false_iff.mpr c8
      subst c8
      have H1 : (winnowerlaw09_BitsetLaws.j0 k l0 l1 l2 a3 false true) = some r := by rw [if_neg (show ¬ (false = true) by decide)] at H; exact H
      clear H
      have H := H1
      clear H1
      have H' := Aside0.mk H
      clear H
      go_wp2
      go_meet
      case rel => exact ⟨_, (true), (by first | rfl | (simp; done) | (simp [*]; done)), H', ⟨by first | omega | exact Nat.le_refl _⟩, ⟨by repeat (first | (with_reducible first | exact HB.out | apply below_alloc | apply pw_below_drewN | apply below_drew1) | exact HB.out)⟩⟩
  case rest =>
    clear HC6
    try clear c1
    try clear c2
    try clear p2
    try clear c3
    try clear c7
    try clear c8
    try clear c9
    try clear c9b0
    try clear c9b1
    try clear c10
    try clear c10b0
    try clear c10b1
    obtain ⟨kq, x34_5, rfl, HA, HJ5, HB⟩ := hcut
    cases kq with
    | zero => exact absurd HA.out (by simp [winnowerlaw09_BitsetLaws.j0])
    | succ kj5 =>
      have H := HA.out
      clear HA
      simp only [winnowerlaw09_BitsetLaws.j0] at H
      by_cases c11 : x34_5 = true
      · subst c11
        have H1 : (some t159) = some r := by rw [if_pos rfl] at H; exact H
        clear H
        have H := H1
        clear H1
        obtain rfl := Option.some.inj H
        go_wp2
        go_ret
        exact ⟨by first | rfl | (simp [errW_none, errW_some] <;> rfl) | (refine congrArg (fun b_ : Bool => Ending.returned (Value.bool b_)) ?_; simp; done) | (simp [*, errW_none, errW_some] <;> rfl), by repeat (first | (with_reducible first | exact HB.out | apply below_alloc | apply pw_below_drewN | apply below_drew1) | exact HB.out)⟩
      · replace c11 := Bool.eq_false_iff.mpr c11
        subst c11
        have H1 : ((bitset_Of.f l0).bind fun t160 => ((bitset_Of.f l1).bind fun t164 => ((bitset_Of.f l2).bind fun t168 => ((bitset_Set_And.f t160 t164).bind fun t172 => ((bitset_Set_Not.f t172 a3).bind fun t175 => ((bitset_Set_Not.f t160 a3).bind fun t178 => ((bitset_Set_Not.f t164 a3).bind fun t181 => ((bitset_Set_Or.f t178 t181).bind fun t184 => ((bitset_Same.f kj5 t175 t184).bind fun t187 => ((bitset_Set_Or.f t160 t164).bind fun t188 => ((bitset_Set_Not.f t188 a3).bind fun t191 => ((bitset_Set_Not.f t160 a3).bind fun t194 => ((bitset_Set_Not.f t164 a3).bind fun t197 => ((bitset_Set_And.f t194 t197).bind fun t200 => ((bitset_Same.f kj5 t191 t200).bind fun t203 => ((bitset_Set_Or.f t164 t168).bind fun t204 => ((bitset_Set_And.f t160 t204).bind fun t207 => ((bitset_Set_And.f t160 t164).bind fun t210 => ((bitset_Set_And.f t160 t168).bind fun t213 => ((bitset_Set_Or.f t210 t213).bind fun t216 => ((bitset_Same.f kj5 t207 t216).bind fun t219 => ((bitset_Set_Not.f t160 a3).bind fun t220 => ((bitset_Set_Not.f t220 a3).bind fun t223 => ((bitset_Upto.f a3).bind fun t226 => ((bitset_Set_And.f t160 t226).bind fun t229 => ((bitset_Same.f kj5 t223 t229).bind fun t232 => (if t187 = true then (if t203 = true then (if t219 = true then (if t232 = true then ((bitset_Set_And.f t160 t164).bind fun t233 => ((bitset_Set_Count.f kj5 t233).bind fun t236 => ((bitset_Set_Or.f t160 t164).bind fun t237 => ((bitset_Set_Count.f kj5 t237).bind fun t240 => ((bitset_Set_Count.f kj5 t160).bind fun t241 => ((bitset_Set_Count.f kj5 t164).bind fun t242 => (if (wrap64 (t236 + t240)) = (wrap64 (t241 + t242)) then ((bitset_Set_Not.f t160 a3).bind fun t243 => ((bitset_Set_And.f t243 t160).bind fun t246 => ((bitset_Set_Count.f kj5 t246).bind fun t249 => (some (t249 == 0))))) else (some false)))))))) else (some false)) else (some false)) else (some false)) else (some false)))))))))))))))))))))))))))) = some r := by rw [if_neg (show ¬ (false = true) by decide)] at H; exact H
        clear H
        have H := H1
        clear H1
        replace H := Option.bind_eq_some_iff.mp H
        obtain ⟨t160, A120, H⟩ := H
        replace H : ((bitset_Of.f l1).bind fun t164 => ((bitset_Of.f l2).bind fun t168 => ((bitset_Set_And.f t160 t164).bind fun t172 => ((bitset_Set_Not.f t172 a3).bind fun t175 => ((bitset_Set_Not.f t160 a3).bind fun t178 => ((bitset_Set_Not.f t164 a3).bind fun t181 => ((bitset_Set_Or.f t178 t181).bind fun t184 => ((bitset_Same.f kj5 t175 t184).bind fun t187 => ((bitset_Set_Or.f t160 t164).bind fun t188 => ((bitset_Set_Not.f t188 a3).bind fun t191 => ((bitset_Set_Not.f t160 a3).bind fun t194 => ((bitset_Set_Not.f t164 a3).bind fun t197 => ((bitset_Set_And.f t194 t197).bind fun t200 => ((bitset_Same.f kj5 t191 t200).bind fun t203 => ((bitset_Set_Or.f t164 t168).bind fun t204 => ((bitset_Set_And.f t160 t204).bind fun t207 => ((bitset_Set_And.f t160 t164).bind fun t210 => ((bitset_Set_And.f t160 t168).bind fun t213 => ((bitset_Set_Or.f t210 t213).bind fun t216 => ((bitset_Same.f kj5 t207 t216).bind fun t219 => ((bitset_Set_Not.f t160 a3).bind fun t220 => ((bitset_Set_Not.f t220 a3).bind fun t223 => ((bitset_Upto.f a3).bind fun t226 => ((bitset_Set_And.f t160 t226).bind fun t229 => ((bitset_Same.f kj5 t223 t229).bind fun t232 => (if t187 = true then (if t203 = true then (if t219 = true then (if t232 = true then ((bitset_Set_And.f t160 t164).bind fun t233 => ((bitset_Set_Count.f kj5 t233).bind fun t236 => ((bitset_Set_Or.f t160 t164).bind fun t237 => ((bitset_Set_Count.f kj5 t237).bind fun t240 => ((bitset_Set_Count.f kj5 t160).bind fun t241 => ((bitset_Set_Count.f kj5 t164).bind fun t242 => (if (wrap64 (t236 + t240)) = (wrap64 (t241 + t242)) then ((bitset_Set_Not.f t160 a3).bind fun t243 => ((bitset_Set_And.f t243 t160).bind fun t246 => ((bitset_Set_Count.f kj5 t246).bind fun t249 => (some (t249 == 0))))) else (some false)))))))) else (some false)) else (some false)) else (some false)) else (some false))))))))))))))))))))))))))) = some r := H
        have A12 := Aside0.mk A120
        clear A120
        replace H := Option.bind_eq_some_iff.mp H
        obtain ⟨t164, A130, H⟩ := H
        replace H : ((bitset_Of.f l2).bind fun t168 => ((bitset_Set_And.f t160 t164).bind fun t172 => ((bitset_Set_Not.f t172 a3).bind fun t175 => ((bitset_Set_Not.f t160 a3).bind fun t178 => ((bitset_Set_Not.f t164 a3).bind fun t181 => ((bitset_Set_Or.f t178 t181).bind fun t184 => ((bitset_Same.f kj5 t175 t184).bind fun t187 => ((bitset_Set_Or.f t160 t164).bind fun t188 => ((bitset_Set_Not.f t188 a3).bind fun t191 => ((bitset_Set_Not.f t160 a3).bind fun t194 => ((bitset_Set_Not.f t164 a3).bind fun t197 => ((bitset_Set_And.f t194 t197).bind fun t200 => ((bitset_Same.f kj5 t191 t200).bind fun t203 => ((bitset_Set_Or.f t164 t168).bind fun t204 => ((bitset_Set_And.f t160 t204).bind fun t207 => ((bitset_Set_And.f t160 t164).bind fun t210 => ((bitset_Set_And.f t160 t168).bind fun t213 => ((bitset_Set_Or.f t210 t213).bind fun t216 => ((bitset_Same.f kj5 t207 t216).bind fun t219 => ((bitset_Set_Not.f t160 a3).bind fun t220 => ((bitset_Set_Not.f t220 a3).bind fun t223 => ((bitset_Upto.f a3).bind fun t226 => ((bitset_Set_And.f t160 t226).bind fun t229 => ((bitset_Same.f kj5 t223 t229).bind fun t232 => (if t187 = true then (if t203 = true then (if t219 = true then (if t232 = true then ((bitset_Set_And.f t160 t164).bind fun t233 => ((bitset_Set_Count.f kj5 t233).bind fun t236 => ((bitset_Set_Or.f t160 t164).bind fun t237 => ((bitset_Set_Count.f kj5 t237).bind fun t240 => ((bitset_Set_Count.f kj5 t160).bind fun t241 => ((bitset_Set_Count.f kj5 t164).bind fun t242 => (if (wrap64 (t236 + t240)) = (wrap64 (t241 + t242)) then ((bitset_Set_Not.f t160 a3).bind fun t243 => ((bitset_Set_And.f t243 t160).bind fun t246 => ((bitset_Set_Count.f kj5 t246).bind fun t249 => (some (t249 == 0))))) else (some false)))))))) else (some false)) else (some false)) else (some false)) else (some false)))))))))))))))))))))))))) = some r := H
        have A13 := Aside0.mk A130
        clear A130
        replace H := Option.bind_eq_some_iff.mp H
        obtain ⟨t168, A140, H⟩ := H
        replace H : ((bitset_Set_And.f t160 t164).bind fun t172 => ((bitset_Set_Not.f t172 a3).bind fun t175 => ((bitset_Set_Not.f t160 a3).bind fun t178 => ((bitset_Set_Not.f t164 a3).bind fun t181 => ((bitset_Set_Or.f t178 t181).bind fun t184 => ((bitset_Same.f kj5 t175 t184).bind fun t187 => ((bitset_Set_Or.f t160 t164).bind fun t188 => ((bitset_Set_Not.f t188 a3).bind fun t191 => ((bitset_Set_Not.f t160 a3).bind fun t194 => ((bitset_Set_Not.f t164 a3).bind fun t197 => ((bitset_Set_And.f t194 t197).bind fun t200 => ((bitset_Same.f kj5 t191 t200).bind fun t203 => ((bitset_Set_Or.f t164 t168).bind fun t204 => ((bitset_Set_And.f t160 t204).bind fun t207 => ((bitset_Set_And.f t160 t164).bind fun t210 => ((bitset_Set_And.f t160 t168).bind fun t213 => ((bitset_Set_Or.f t210 t213).bind fun t216 => ((bitset_Same.f kj5 t207 t216).bind fun t219 => ((bitset_Set_Not.f t160 a3).bind fun t220 => ((bitset_Set_Not.f t220 a3).bind fun t223 => ((bitset_Upto.f a3).bind fun t226 => ((bitset_Set_And.f t160 t226).bind fun t229 => ((bitset_Same.f kj5 t223 t229).bind fun t232 => (if t187 = true then (if t203 = true then (if t219 = true then (if t232 = true then ((bitset_Set_And.f t160 t164).bind fun t233 => ((bitset_Set_Count.f kj5 t233).bind fun t236 => ((bitset_Set_Or.f t160 t164).bind fun t237 => ((bitset_Set_Count.f kj5 t237).bind fun t240 => ((bitset_Set_Count.f kj5 t160).bind fun t241 => ((bitset_Set_Count.f kj5 t164).bind fun t242 => (if (wrap64 (t236 + t240)) = (wrap64 (t241 + t242)) then ((bitset_Set_Not.f t160 a3).bind fun t243 => ((bitset_Set_And.f t243 t160).bind fun t246 => ((bitset_Set_Count.f kj5 t246).bind fun t249 => (some (t249 == 0))))) else (some false)))))))) else (some false)) else (some false)) else (some false)) else (some false))))))))))))))))))))))))) = some r := H
        have A14 := Aside0.mk A140
        clear A140
        replace H := Option.bind_eq_some_iff.mp H
        obtain ⟨t172, A150, H⟩ := H
        replace H : ((bitset_Set_Not.f t172 a3).bind fun t175 => ((bitset_Set_Not.f t160 a3).bind fun t178 => ((bitset_Set_Not.f t164 a3).bind fun t181 => ((bitset_Set_Or.f t178 t181).bind fun t184 => ((bitset_Same.f kj5 t175 t184).bind fun t187 => ((bitset_Set_Or.f t160 t164).bind fun t188 => ((bitset_Set_Not.f t188 a3).bind fun t191 => ((bitset_Set_Not.f t160 a3).bind fun t194 => ((bitset_Set_Not.f t164 a3).bind fun t197 => ((bitset_Set_And.f t194 t197).bind fun t200 => ((bitset_Same.f kj5 t191 t200).bind fun t203 => ((bitset_Set_Or.f t164 t168).bind fun t204 => ((bitset_Set_And.f t160 t204).bind fun t207 => ((bitset_Set_And.f t160 t164).bind fun t210 => ((bitset_Set_And.f t160 t168).bind fun t213 => ((bitset_Set_Or.f t210 t213).bind fun t216 => ((bitset_Same.f kj5 t207 t216).bind fun t219 => ((bitset_Set_Not.f t160 a3).bind fun t220 => ((bitset_Set_Not.f t220 a3).bind fun t223 => ((bitset_Upto.f a3).bind fun t226 => ((bitset_Set_And.f t160 t226).bind fun t229 => ((bitset_Same.f kj5 t223 t229).bind fun t232 => (if t187 = true then (if t203 = true then (if t219 = true then (if t232 = true then ((bitset_Set_And.f t160 t164).bind fun t233 => ((bitset_Set_Count.f kj5 t233).bind fun t236 => ((bitset_Set_Or.f t160 t164).bind fun t237 => ((bitset_Set_Count.f kj5 t237).bind fun t240 => ((bitset_Set_Count.f kj5 t160).bind fun t241 => ((bitset_Set_Count.f kj5 t164).bind fun t242 => (if (wrap64 (t236 + t240)) = (wrap64 (t241 + t242)) then ((bitset_Set_Not.f t160 a3).bind fun t243 => ((bitset_Set_And.f t243 t160).bind fun t246 => ((bitset_Set_Count.f kj5 t246).bind fun t249 => (some (t249 == 0))))) else (some false)))))))) else (some false)) else (some false)) else (some false)) else (some false)))))))))))))))))))))))) = some r := H
        have A15 := Aside0.mk A150
        clear A150
        replace H := Option.bind_eq_some_iff.mp H
        obtain ⟨t175, A160, H⟩ := H
        replace H : ((bitset_Set_Not.f t160 a3).bind fun t178 => ((bitset_Set_Not.f t164 a3).bind fun t181 => ((bitset_Set_Or.f t178 t181).bind fun t184 => ((bitset_Same.f kj5 t175 t184).bind fun t187 => ((bitset_Set_Or.f t160 t164).bind fun t188 => ((bitset_Set_Not.f t188 a3).bind fun t191 => ((bitset_Set_Not.f t160 a3).bind fun t194 => ((bitset_Set_Not.f t164 a3).bind fun t197 => ((bitset_Set_And.f t194 t197).bind fun t200 => ((bitset_Same.f kj5 t191 t200).bind fun t203 => ((bitset_Set_Or.f t164 t168).bind fun t204 => ((bitset_Set_And.f t160 t204).bind fun t207 => ((bitset_Set_And.f t160 t164).bind fun t210 => ((bitset_Set_And.f t160 t168).bind fun t213 => ((bitset_Set_Or.f t210 t213).bind fun t216 => ((bitset_Same.f kj5 t207 t216).bind fun t219 => ((bitset_Set_Not.f t160 a3).bind fun t220 => ((bitset_Set_Not.f t220 a3).bind fun t223 => ((bitset_Upto.f a3).bind fun t226 => ((bitset_Set_And.f t160 t226).bind fun t229 => ((bitset_Same.f kj5 t223 t229).bind fun t232 => (if t187 = true then (if t203 = true then (if t219 = true then (if t232 = true then ((bitset_Set_And.f t160 t164).bind fun t233 => ((bitset_Set_Count.f kj5 t233).bind fun t236 => ((bitset_Set_Or.f t160 t164).bind fun t237 => ((bitset_Set_Count.f kj5 t237).bind fun t240 => ((bitset_Set_Count.f kj5 t160).bind fun t241 => ((bitset_Set_Count.f kj5 t164).bind fun t242 => (if (wrap64 (t236 + t240)) = (wrap64 (t241 + t242)) then ((bitset_Set_Not.f t160 a3).bind fun t243 => ((bitset_Set_And.f t243 t160).bind fun t246 => ((bitset_Set_Count.f kj5 t246).bind fun t249 => (some (t249 == 0))))) else (some false)))))))) else (some false)) else (some false)) else (some false)) else (some false))))))))))))))))))))))) = some r := H
        have A16 := Aside0.mk A160
        clear A160
        replace H := Option.bind_eq_some_iff.mp H
        obtain ⟨t178, A170, H⟩ := H
        replace H : ((bitset_Set_Not.f t164 a3).bind fun t181 => ((bitset_Set_Or.f t178 t181).bind fun t184 => ((bitset_Same.f kj5 t175 t184).bind fun t187 => ((bitset_Set_Or.f t160 t164).bind fun t188 => ((bitset_Set_Not.f t188 a3).bind fun t191 => ((bitset_Set_Not.f t160 a3).bind fun t194 => ((bitset_Set_Not.f t164 a3).bind fun t197 => ((bitset_Set_And.f t194 t197).bind fun t200 => ((bitset_Same.f kj5 t191 t200).bind fun t203 => ((bitset_Set_Or.f t164 t168).bind fun t204 => ((bitset_Set_And.f t160 t204).bind fun t207 => ((bitset_Set_And.f t160 t164).bind fun t210 => ((bitset_Set_And.f t160 t168).bind fun t213 => ((bitset_Set_Or.f t210 t213).bind fun t216 => ((bitset_Same.f kj5 t207 t216).bind fun t219 => ((bitset_Set_Not.f t160 a3).bind fun t220 => ((bitset_Set_Not.f t220 a3).bind fun t223 => ((bitset_Upto.f a3).bind fun t226 => ((bitset_Set_And.f t160 t226).bind fun t229 => ((bitset_Same.f kj5 t223 t229).bind fun t232 => (if t187 = true then (if t203 = true then (if t219 = true then (if t232 = true then ((bitset_Set_And.f t160 t164).bind fun t233 => ((bitset_Set_Count.f kj5 t233).bind fun t236 => ((bitset_Set_Or.f t160 t164).bind fun t237 => ((bitset_Set_Count.f kj5 t237).bind fun t240 => ((bitset_Set_Count.f kj5 t160).bind fun t241 => ((bitset_Set_Count.f kj5 t164).bind fun t242 => (if (wrap64 (t236 + t240)) = (wrap64 (t241 + t242)) then ((bitset_Set_Not.f t160 a3).bind fun t243 => ((bitset_Set_And.f t243 t160).bind fun t246 => ((bitset_Set_Count.f kj5 t246).bind fun t249 => (some (t249 == 0))))) else (some false)))))))) else (some false)) else (some false)) else (some false)) else (some false)))))))))))))))))))))) = some r := H
        have A17 := Aside0.mk A170
        clear A170
        replace H := Option.bind_eq_some_iff.mp H
        obtain ⟨t181, A180, H⟩ := H
        replace H : ((bitset_Set_Or.f t178 t181).bind fun t184 => ((bitset_Same.f kj5 t175 t184).bind fun t187 => ((bitset_Set_Or.f t160 t164).bind fun t188 => ((bitset_Set_Not.f t188 a3).bind fun t191 => ((bitset_Set_Not.f t160 a3).bind fun t194 => ((bitset_Set_Not.f t164 a3).bind fun t197 => ((bitset_Set_And.f t194 t197).bind fun t200 => ((bitset_Same.f kj5 t191 t200).bind fun t203 => ((bitset_Set_Or.f t164 t168).bind fun t204 => ((bitset_Set_And.f t160 t204).bind fun t207 => ((bitset_Set_And.f t160 t164).bind fun t210 => ((bitset_Set_And.f t160 t168).bind fun t213 => ((bitset_Set_Or.f t210 t213).bind fun t216 => ((bitset_Same.f kj5 t207 t216).bind fun t219 => ((bitset_Set_Not.f t160 a3).bind fun t220 => ((bitset_Set_Not.f t220 a3).bind fun t223 => ((bitset_Upto.f a3).bind fun t226 => ((bitset_Set_And.f t160 t226).bind fun t229 => ((bitset_Same.f kj5 t223 t229).bind fun t232 => (if t187 = true then (if t203 = true then (if t219 = true then (if t232 = true then ((bitset_Set_And.f t160 t164).bind fun t233 => ((bitset_Set_Count.f kj5 t233).bind fun t236 => ((bitset_Set_Or.f t160 t164).bind fun t237 => ((bitset_Set_Count.f kj5 t237).bind fun t240 => ((bitset_Set_Count.f kj5 t160).bind fun t241 => ((bitset_Set_Count.f kj5 t164).bind fun t242 => (if (wrap64 (t236 + t240)) = (wrap64 (t241 + t242)) then ((bitset_Set_Not.f t160 a3).bind fun t243 => ((bitset_Set_And.f t243 t160).bind fun t246 => ((bitset_Set_Count.f kj5 t246).bind fun t249 => (some (t249 == 0))))) else (some false)))))))) else (some false)) else (some false)) else (some false)) else (some false))))))))))))))))))))) = some r := H
        have A18 := Aside0.mk A180
        clear A180
        replace H := Option.bind_eq_some_iff.mp H
        obtain ⟨t184, A190, H⟩ := H
        replace H : ((bitset_Same.f kj5 t175 t184).bind fun t187 => ((bitset_Set_Or.f t160 t164).bind fun t188 => ((bitset_Set_Not.f t188 a3).bind fun t191 => ((bitset_Set_Not.f t160 a3).bind fun t194 => ((bitset_Set_Not.f t164 a3).bind fun t197 => ((bitset_Set_And.f t194 t197).bind fun t200 => ((bitset_Same.f kj5 t191 t200).bind fun t203 => ((bitset_Set_Or.f t164 t168).bind fun t204 => ((bitset_Set_And.f t160 t204).bind fun t207 => ((bitset_Set_And.f t160 t164).bind fun t210 => ((bitset_Set_And.f t160 t168).bind fun t213 => ((bitset_Set_Or.f t210 t213).bind fun t216 => ((bitset_Same.f kj5 t207 t216).bind fun t219 => ((bitset_Set_Not.f t160 a3).bind fun t220 => ((bitset_Set_Not.f t220 a3).bind fun t223 => ((bitset_Upto.f a3).bind fun t226 => ((bitset_Set_And.f t160 t226).bind fun t229 => ((bitset_Same.f kj5 t223 t229).bind fun t232 => (if t187 = true then (if t203 = true then (if t219 = true then (if t232 = true then ((bitset_Set_And.f t160 t164).bind fun t233 => ((bitset_Set_Count.f kj5 t233).bind fun t236 => ((bitset_Set_Or.f t160 t164).bind fun t237 => ((bitset_Set_Count.f kj5 t237).bind fun t240 => ((bitset_Set_Count.f kj5 t160).bind fun t241 => ((bitset_Set_Count.f kj5 t164).bind fun t242 => (if (wrap64 (t236 + t240)) = (wrap64 (t241 + t242)) then ((bitset_Set_Not.f t160 a3).bind fun t243 => ((bitset_Set_And.f t243 t160).bind fun t246 => ((bitset_Set_Count.f kj5 t246).bind fun t249 => (some (t249 == 0))))) else (some false)))))))) else (some false)) else (some false)) else (some false)) else (some false)))))))))))))))))))) = some r := H
        have A19 := Aside0.mk A190
        clear A190
        replace H := Option.bind_eq_some_iff.mp H
        obtain ⟨t187, A200, H⟩ := H
        replace H : ((bitset_Set_Or.f t160 t164).bind fun t188 => ((bitset_Set_Not.f t188 a3).bind fun t191 => ((bitset_Set_Not.f t160 a3).bind fun t194 => ((bitset_Set_Not.f t164 a3).bind fun t197 => ((bitset_Set_And.f t194 t197).bind fun t200 => ((bitset_Same.f kj5 t191 t200).bind fun t203 => ((bitset_Set_Or.f t164 t168).bind fun t204 => ((bitset_Set_And.f t160 t204).bind fun t207 => ((bitset_Set_And.f t160 t164).bind fun t210 => ((bitset_Set_And.f t160 t168).bind fun t213 => ((bitset_Set_Or.f t210 t213).bind fun t216 => ((bitset_Same.f kj5 t207 t216).bind fun t219 => ((bitset_Set_Not.f t160 a3).bind fun t220 => ((bitset_Set_Not.f t220 a3).bind fun t223 => ((bitset_Upto.f a3).bind fun t226 => ((bitset_Set_And.f t160 t226).bind fun t229 => ((bitset_Same.f kj5 t223 t229).bind fun t232 => (if t187 = true then (if t203 = true then (if t219 = true then (if t232 = true then ((bitset_Set_And.f t160 t164).bind fun t233 => ((bitset_Set_Count.f kj5 t233).bind fun t236 => ((bitset_Set_Or.f t160 t164).bind fun t237 => ((bitset_Set_Count.f kj5 t237).bind fun t240 => ((bitset_Set_Count.f kj5 t160).bind fun t241 => ((bitset_Set_Count.f kj5 t164).bind fun t242 => (if (wrap64 (t236 + t240)) = (wrap64 (t241 + t242)) then ((bitset_Set_Not.f t160 a3).bind fun t243 => ((bitset_Set_And.f t243 t160).bind fun t246 => ((bitset_Set_Count.f kj5 t246).bind fun t249 => (some (t249 == 0))))) else (some false)))))))) else (some false)) else (some false)) else (some false)) else (some false))))))))))))))))))) = some r := H
        have A20 := Aside0.mk A200
        clear A200
        replace H := Option.bind_eq_some_iff.mp H
        obtain ⟨t188, A210, H⟩ := H
        replace H : ((bitset_Set_Not.f t188 a3).bind fun t191 => ((bitset_Set_Not.f t160 a3).bind fun t194 => ((bitset_Set_Not.f t164 a3).bind fun t197 => ((bitset_Set_And.f t194 t197).bind fun t200 => ((bitset_Same.f kj5 t191 t200).bind fun t203 => ((bitset_Set_Or.f t164 t168).bind fun t204 => ((bitset_Set_And.f t160 t204).bind fun t207 => ((bitset_Set_And.f t160 t164).bind fun t210 => ((bitset_Set_And.f t160 t168).bind fun t213 => ((bitset_Set_Or.f t210 t213).bind fun t216 => ((bitset_Same.f kj5 t207 t216).bind fun t219 => ((bitset_Set_Not.f t160 a3).bind fun t220 => ((bitset_Set_Not.f t220 a3).bind fun t223 => ((bitset_Upto.f a3).bind fun t226 => ((bitset_Set_And.f t160 t226).bind fun t229 => ((bitset_Same.f kj5 t223 t229).bind fun t232 => (if t187 = true then (if t203 = true then (if t219 = true then (if t232 = true then ((bitset_Set_And.f t160 t164).bind fun t233 => ((bitset_Set_Count.f kj5 t233).bind fun t236 => ((bitset_Set_Or.f t160 t164).bind fun t237 => ((bitset_Set_Count.f kj5 t237).bind fun t240 => ((bitset_Set_Count.f kj5 t160).bind fun t241 => ((bitset_Set_Count.f kj5 t164).bind fun t242 => (if (wrap64 (t236 + t240)) = (wrap64 (t241 + t242)) then ((bitset_Set_Not.f t160 a3).bind fun t243 => ((bitset_Set_And.f t243 t160).bind fun t246 => ((bitset_Set_Count.f kj5 t246).bind fun t249 => (some (t249 == 0))))) else (some false)))))))) else (some false)) else (some false)) else (some false)) else (some false)))))))))))))))))) = some r := H
        have A21 := Aside0.mk A210
        clear A210
        replace H := Option.bind_eq_some_iff.mp H
        obtain ⟨t191, A220, H⟩ := H
        replace H : ((bitset_Set_Not.f t160 a3).bind fun t194 => ((bitset_Set_Not.f t164 a3).bind fun t197 => ((bitset_Set_And.f t194 t197).bind fun t200 => ((bitset_Same.f kj5 t191 t200).bind fun t203 => ((bitset_Set_Or.f t164 t168).bind fun t204 => ((bitset_Set_And.f t160 t204).bind fun t207 => ((bitset_Set_And.f t160 t164).bind fun t210 => ((bitset_Set_And.f t160 t168).bind fun t213 => ((bitset_Set_Or.f t210 t213).bind fun t216 => ((bitset_Same.f kj5 t207 t216).bind fun t219 => ((bitset_Set_Not.f t160 a3).bind fun t220 => ((bitset_Set_Not.f t220 a3).bind fun t223 => ((bitset_Upto.f a3).bind fun t226 => ((bitset_Set_And.f t160 t226).bind fun t229 => ((bitset_Same.f kj5 t223 t229).bind fun t232 => (if t187 = true then (if t203 = true then (if t219 = true then (if t232 = true then ((bitset_Set_And.f t160 t164).bind fun t233 => ((bitset_Set_Count.f kj5 t233).bind fun t236 => ((bitset_Set_Or.f t160 t164).bind fun t237 => ((bitset_Set_Count.f kj5 t237).bind fun t240 => ((bitset_Set_Count.f kj5 t160).bind fun t241 => ((bitset_Set_Count.f kj5 t164).bind fun t242 => (if (wrap64 (t236 + t240)) = (wrap64 (t241 + t242)) then ((bitset_Set_Not.f t160 a3).bind fun t243 => ((bitset_Set_And.f t243 t160).bind fun t246 => ((bitset_Set_Count.f kj5 t246).bind fun t249 => (some (t249 == 0))))) else (some false)))))))) else (some false)) else (some false)) else (some false)) else (some false))))))))))))))))) = some r := H
        have A22 := Aside0.mk A220
        clear A220
        replace H := Option.bind_eq_some_iff.mp H
        obtain ⟨t194, A230, H⟩ := H
        replace H : ((bitset_Set_Not.f t164 a3).bind fun t197 => ((bitset_Set_And.f t194 t197).bind fun t200 => ((bitset_Same.f kj5 t191 t200).bind fun t203 => ((bitset_Set_Or.f t164 t168).bind fun t204 => ((bitset_Set_And.f t160 t204).bind fun t207 => ((bitset_Set_And.f t160 t164).bind fun t210 => ((bitset_Set_And.f t160 t168).bind fun t213 => ((bitset_Set_Or.f t210 t213).bind fun t216 => ((bitset_Same.f kj5 t207 t216).bind fun t219 => ((bitset_Set_Not.f t160 a3).bind fun t220 => ((bitset_Set_Not.f t220 a3).bind fun t223 => ((bitset_Upto.f a3).bind fun t226 => ((bitset_Set_And.f t160 t226).bind fun t229 => ((bitset_Same.f kj5 t223 t229).bind fun t232 => (if t187 = true then (if t203 = true then (if t219 = true then (if t232 = true then ((bitset_Set_And.f t160 t164).bind fun t233 => ((bitset_Set_Count.f kj5 t233).bind fun t236 => ((bitset_Set_Or.f t160 t164).bind fun t237 => ((bitset_Set_Count.f kj5 t237).bind fun t240 => ((bitset_Set_Count.f kj5 t160).bind fun t241 => ((bitset_Set_Count.f kj5 t164).bind fun t242 => (if (wrap64 (t236 + t240)) = (wrap64 (t241 + t242)) then ((bitset_Set_Not.f t160 a3).bind fun t243 => ((bitset_Set_And.f t243 t160).bind fun t246 => ((bitset_Set_Count.f kj5 t246).bind fun t249 => (some (t249 == 0))))) else (some false)))))))) else (some false)) else (some false)) else (some false)) else (some false)))))))))))))))) = some r := H
        have A23 := Aside0.mk A230
        clear A230
        replace H := Option.bind_eq_some_iff.mp H
        obtain ⟨t197, A240, H⟩ := H
        replace H : ((bitset_Set_And.f t194 t197).bind fun t200 => ((bitset_Same.f kj5 t191 t200).bind fun t203 => ((bitset_Set_Or.f t164 t168).bind fun t204 => ((bitset_Set_And.f t160 t204).bind fun t207 => ((bitset_Set_And.f t160 t164).bind fun t210 => ((bitset_Set_And.f t160 t168).bind fun t213 => ((bitset_Set_Or.f t210 t213).bind fun t216 => ((bitset_Same.f kj5 t207 t216).bind fun t219 => ((bitset_Set_Not.f t160 a3).bind fun t220 => ((bitset_Set_Not.f t220 a3).bind fun t223 => ((bitset_Upto.f a3).bind fun t226 => ((bitset_Set_And.f t160 t226).bind fun t229 => ((bitset_Same.f kj5 t223 t229).bind fun t232 => (if t187 = true then (if t203 = true then (if t219 = true then (if t232 = true then ((bitset_Set_And.f t160 t164).bind fun t233 => ((bitset_Set_Count.f kj5 t233).bind fun t236 => ((bitset_Set_Or.f t160 t164).bind fun t237 => ((bitset_Set_Count.f kj5 t237).bind fun t240 => ((bitset_Set_Count.f kj5 t160).bind fun t241 => ((bitset_Set_Count.f kj5 t164).bind fun t242 => (if (wrap64 (t236 + t240)) = (wrap64 (t241 + t242)) then ((bitset_Set_Not.f t160 a3).bind fun t243 => ((bitset_Set_And.f t243 t160).bind fun t246 => ((bitset_Set_Count.f kj5 t246).bind fun t249 => (some (t249 == 0))))) else (some false)))))))) else (some false)) else (some false)) else (some false)) else (some false))))))))))))))) = some r := H
        have A24 := Aside0.mk A240
        clear A240
        replace H := Option.bind_eq_some_iff.mp H
        obtain ⟨t200, A250, H⟩ := H
        replace H : ((bitset_Same.f kj5 t191 t200).bind fun t203 => ((bitset_Set_Or.f t164 t168).bind fun t204 => ((bitset_Set_And.f t160 t204).bind fun t207 => ((bitset_Set_And.f t160 t164).bind fun t210 => ((bitset_Set_And.f t160 t168).bind fun t213 => ((bitset_Set_Or.f t210 t213).bind fun t216 => ((bitset_Same.f kj5 t207 t216).bind fun t219 => ((bitset_Set_Not.f t160 a3).bind fun t220 => ((bitset_Set_Not.f t220 a3).bind fun t223 => ((bitset_Upto.f a3).bind fun t226 => ((bitset_Set_And.f t160 t226).bind fun t229 => ((bitset_Same.f kj5 t223 t229).bind fun t232 => (if t187 = true then (if t203 = true then (if t219 = true then (if t232 = true then ((bitset_Set_And.f t160 t164).bind fun t233 => ((bitset_Set_Count.f kj5 t233).bind fun t236 => ((bitset_Set_Or.f t160 t164).bind fun t237 => ((bitset_Set_Count.f kj5 t237).bind fun t240 => ((bitset_Set_Count.f kj5 t160).bind fun t241 => ((bitset_Set_Count.f kj5 t164).bind fun t242 => (if (wrap64 (t236 + t240)) = (wrap64 (t241 + t242)) then ((bitset_Set_Not.f t160 a3).bind fun t243 => ((bitset_Set_And.f t243 t160).bind fun t246 => ((bitset_Set_Count.f kj5 t246).bind fun t249 => (some (t249 == 0))))) else (some false)))))))) else (some false)) else (some false)) else (some false)) else (some false)))))))))))))) = some r := H
        have A25 := Aside0.mk A250
        clear A250
        replace H := Option.bind_eq_some_iff.mp H
        obtain ⟨t203, A260, H⟩ := H
        replace H : ((bitset_Set_Or.f t164 t168).bind fun t204 => ((bitset_Set_And.f t160 t204).bind fun t207 => ((bitset_Set_And.f t160 t164).bind fun t210 => ((bitset_Set_And.f t160 t168).bind fun t213 => ((bitset_Set_Or.f t210 t213).bind fun t216 => ((bitset_Same.f kj5 t207 t216).bind fun t219 => ((bitset_Set_Not.f t160 a3).bind fun t220 => ((bitset_Set_Not.f t220 a3).bind fun t223 => ((bitset_Upto.f a3).bind fun t226 => ((bitset_Set_And.f t160 t226).bind fun t229 => ((bitset_Same.f kj5 t223 t229).bind fun t232 => (if t187 = true then (if t203 = true then (if t219 = true then (if t232 = true then ((bitset_Set_And.f t160 t164).bind fun t233 => ((bitset_Set_Count.f kj5 t233).bind fun t236 => ((bitset_Set_Or.f t160 t164).bind fun t237 => ((bitset_Set_Count.f kj5 t237).bind fun t240 => ((bitset_Set_Count.f kj5 t160).bind fun t241 => ((bitset_Set_Count.f kj5 t164).bind fun t242 => (if (wrap64 (t236 + t240)) = (wrap64 (t241 + t242)) then ((bitset_Set_Not.f t160 a3).bind fun t243 => ((bitset_Set_And.f t243 t160).bind fun t246 => ((bitset_Set_Count.f kj5 t246).bind fun t249 => (some (t249 == 0))))) else (some false)))))))) else (some false)) else (some false)) else (some false)) else (some false))))))))))))) = some r := H
        have A26 := Aside0.mk A260
        clear A260
        replace H := Option.bind_eq_some_iff.mp H
        obtain ⟨t204, A270, H⟩ := H
        replace H : ((bitset_Set_And.f t160 t204).bind fun t207 => ((bitset_Set_And.f t160 t164).bind fun t210 => ((bitset_Set_And.f t160 t168).bind fun t213 => ((bitset_Set_Or.f t210 t213).bind fun t216 => ((bitset_Same.f kj5 t207 t216).bind fun t219 => ((bitset_Set_Not.f t160 a3).bind fun t220 => ((bitset_Set_Not.f t220 a3).bind fun t223 => ((bitset_Upto.f a3).bind fun t226 => ((bitset_Set_And.f t160 t226).bind fun t229 => ((bitset_Same.f kj5 t223 t229).bind fun t232 => (if t187 = true then (if t203 = true then (if t219 = true then (if t232 = true then ((bitset_Set_And.f t160 t164).bind fun t233 => ((bitset_Set_Count.f kj5 t233).bind fun t236 => ((bitset_Set_Or.f t160 t164).bind fun t237 => ((bitset_Set_Count.f kj5 t237).bind fun t240 => ((bitset_Set_Count.f kj5 t160).bind fun t241 => ((bitset_Set_Count.f kj5 t164).bind fun t242 => (if (wrap64 (t236 + t240)) = (wrap64 (t241 + t242)) then ((bitset_Set_Not.f t160 a3).bind fun t243 => ((bitset_Set_And.f t243 t160).bind fun t246 => ((bitset_Set_Count.f kj5 t246).bind fun t249 => (some (t249 == 0))))) else (some false)))))))) else (some false)) else (some false)) else (some false)) else (some false)))))))))))) = some r := H
        have A27 := Aside0.mk A270
        clear A270
        replace H := Option.bind_eq_some_iff.mp H
        obtain ⟨t207, A280, H⟩ := H
        replace H : ((bitset_Set_And.f t160 t164).bind fun t210 => ((bitset_Set_And.f t160 t168).bind fun t213 => ((bitset_Set_Or.f t210 t213).bind fun t216 => ((bitset_Same.f kj5 t207 t216).bind fun t219 => ((bitset_Set_Not.f t160 a3).bind fun t220 => ((bitset_Set_Not.f t220 a3).bind fun t223 => ((bitset_Upto.f a3).bind fun t226 => ((bitset_Set_And.f t160 t226).bind fun t229 => ((bitset_Same.f kj5 t223 t229).bind fun t232 => (if t187 = true then (if t203 = true then (if t219 = true then (if t232 = true then ((bitset_Set_And.f t160 t164).bind fun t233 => ((bitset_Set_Count.f kj5 t233).bind fun t236 => ((bitset_Set_Or.f t160 t164).bind fun t237 => ((bitset_Set_Count.f kj5 t237).bind fun t240 => ((bitset_Set_Count.f kj5 t160).bind fun t241 => ((bitset_Set_Count.f kj5 t164).bind fun t242 => (if (wrap64 (t236 + t240)) = (wrap64 (t241 + t242)) then ((bitset_Set_Not.f t160 a3).bind fun t243 => ((bitset_Set_And.f t243 t160).bind fun t246 => ((bitset_Set_Count.f kj5 t246).bind fun t249 => (some (t249 == 0))))) else (some false)))))))) else (some false)) else (some false)) else (some false)) else (some false))))))))))) = some r := H
        have A28 := Aside0.mk A280
        clear A280
        replace H := Option.bind_eq_some_iff.mp H
        obtain ⟨t210, A290, H⟩ := H
        replace H : ((bitset_Set_And.f t160 t168).bind fun t213 => ((bitset_Set_Or.f t210 t213).bind fun t216 => ((bitset_Same.f kj5 t207 t216).bind fun t219 => ((bitset_Set_Not.f t160 a3).bind fun t220 => ((bitset_Set_Not.f t220 a3).bind fun t223 => ((bitset_Upto.f a3).bind fun t226 => ((bitset_Set_And.f t160 t226).bind fun t229 => ((bitset_Same.f kj5 t223 t229).bind fun t232 => (if t187 = true then (if t203 = true then (if t219 = true then (if t232 = true then ((bitset_Set_And.f t160 t164).bind fun t233 => ((bitset_Set_Count.f kj5 t233).bind fun t236 => ((bitset_Set_Or.f t160 t164).bind fun t237 => ((bitset_Set_Count.f kj5 t237).bind fun t240 => ((bitset_Set_Count.f kj5 t160).bind fun t241 => ((bitset_Set_Count.f kj5 t164).bind fun t242 => (if (wrap64 (t236 + t240)) = (wrap64 (t241 + t242)) then ((bitset_Set_Not.f t160 a3).bind fun t243 => ((bitset_Set_And.f t243 t160).bind fun t246 => ((bitset_Set_Count.f kj5 t246).bind fun t249 => (some (t249 == 0))))) else (some false)))))))) else (some false)) else (some false)) else (some false)) else (some false)))))))))) = some r := H
        have A29 := Aside0.mk A290
        clear A290
        replace H := Option.bind_eq_some_iff.mp H
        obtain ⟨t213, A300, H⟩ := H
        replace H : ((bitset_Set_Or.f t210 t213).bind fun t216 => ((bitset_Same.f kj5 t207 t216).bind fun t219 => ((bitset_Set_Not.f t160 a3).bind fun t220 => ((bitset_Set_Not.f t220 a3).bind fun t223 => ((bitset_Upto.f a3).bind fun t226 => ((bitset_Set_And.f t160 t226).bind fun t229 => ((bitset_Same.f kj5 t223 t229).bind fun t232 => (if t187 = true then (if t203 = true then (if t219 = true then (if t232 = true then ((bitset_Set_And.f t160 t164).bind fun t233 => ((bitset_Set_Count.f kj5 t233).bind fun t236 => ((bitset_Set_Or.f t160 t164).bind fun t237 => ((bitset_Set_Count.f kj5 t237).bind fun t240 => ((bitset_Set_Count.f kj5 t160).bind fun t241 => ((bitset_Set_Count.f kj5 t164).bind fun t242 => (if (wrap64 (t236 + t240)) = (wrap64 (t241 + t242)) then ((bitset_Set_Not.f t160 a3).bind fun t243 => ((bitset_Set_And.f t243 t160).bind fun t246 => ((bitset_Set_Count.f kj5 t246).bind fun t249 => (some (t249 == 0))))) else (some false)))))))) else (some false)) else (some false)) else (some false)) else (some false))))))))) = some r := H
        have A30 := Aside0.mk A300
        clear A300
        replace H := Option.bind_eq_some_iff.mp H
        obtain ⟨t216, A310, H⟩ := H
        replace H : ((bitset_Same.f kj5 t207 t216).bind fun t219 => ((bitset_Set_Not.f t160 a3).bind fun t220 => ((bitset_Set_Not.f t220 a3).bind fun t223 => ((bitset_Upto.f a3).bind fun t226 => ((bitset_Set_And.f t160 t226).bind fun t229 => ((bitset_Same.f kj5 t223 t229).bind fun t232 => (if t187 = true then (if t203 = true then (if t219 = true then (if t232 = true then ((bitset_Set_And.f t160 t164).bind fun t233 => ((bitset_Set_Count.f kj5 t233).bind fun t236 => ((bitset_Set_Or.f t160 t164).bind fun t237 => ((bitset_Set_Count.f kj5 t237).bind fun t240 => ((bitset_Set_Count.f kj5 t160).bind fun t241 => ((bitset_Set_Count.f kj5 t164).bind fun t242 => (if (wrap64 (t236 + t240)) = (wrap64 (t241 + t242)) then ((bitset_Set_Not.f t160 a3).bind fun t243 => ((bitset_Set_And.f t243 t160).bind fun t246 => ((bitset_Set_Count.f kj5 t246).bind fun t249 => (some (t249 == 0))))) else (some false)))))))) else (some false)) else (some false)) else (some false)) else (some false)))))))) = some r := H
        have A31 := Aside0.mk A310
        clear A310
        replace H := Option.bind_eq_some_iff.mp H
        obtain ⟨t219, A320, H⟩ := H
        replace H : ((bitset_Set_Not.f t160 a3).bind fun t220 => ((bitset_Set_Not.f t220 a3).bind fun t223 => ((bitset_Upto.f a3).bind fun t226 => ((bitset_Set_And.f t160 t226).bind fun t229 => ((bitset_Same.f kj5 t223 t229).bind fun t232 => (if t187 = true then (if t203 = true then (if t219 = true then (if t232 = true then ((bitset_Set_And.f t160 t164).bind fun t233 => ((bitset_Set_Count.f kj5 t233).bind fun t236 => ((bitset_Set_Or.f t160 t164).bind fun t237 => ((bitset_Set_Count.f kj5 t237).bind fun t240 => ((bitset_Set_Count.f kj5 t160).bind fun t241 => ((bitset_Set_Count.f kj5 t164).bind fun t242 => (if (wrap64 (t236 + t240)) = (wrap64 (t241 + t242)) then ((bitset_Set_Not.f t160 a3).bind fun t243 => ((bitset_Set_And.f t243 t160).bind fun t246 => ((bitset_Set_Count.f kj5 t246).bind fun t249 => (some (t249 == 0))))) else (some false)))))))) else (some false)) else (some false)) else (some false)) else (some false))))))) = some r := H
        have A32 := Aside0.mk A320
        clear A320
        replace H := Option.bind_eq_some_iff.mp H
        obtain ⟨t220, A330, H⟩ := H
        replace H : ((bitset_Set_Not.f t220 a3).bind fun t223 => ((bitset_Upto.f a3).bind fun t226 => ((bitset_Set_And.f t160 t226).bind fun t229 => ((bitset_Same.f kj5 t223 t229).bind fun t232 => (if t187 = true then (if t203 = true then (if t219 = true then (if t232 = true then ((bitset_Set_And.f t160 t164).bind fun t233 => ((bitset_Set_Count.f kj5 t233).bind fun t236 => ((bitset_Set_Or.f t160 t164).bind fun t237 => ((bitset_Set_Count.f kj5 t237).bind fun t240 => ((bitset_Set_Count.f kj5 t160).bind fun t241 => ((bitset_Set_Count.f kj5 t164).bind fun t242 => (if (wrap64 (t236 + t240)) = (wrap64 (t241 + t242)) then ((bitset_Set_Not.f t160 a3).bind fun t243 => ((bitset_Set_And.f t243 t160).bind fun t246 => ((bitset_Set_Count.f kj5 t246).bind fun t249 => (some (t249 == 0))))) else (some false)))))))) else (some false)) else (some false)) else (some false)) else (some false)))))) = some r := H
        have A33 := Aside0.mk A330
        clear A330
        replace H := Option.bind_eq_some_iff.mp H
        obtain ⟨t223, A340, H⟩ := H
        replace H : ((bitset_Upto.f a3).bind fun t226 => ((bitset_Set_And.f t160 t226).bind fun t229 => ((bitset_Same.f kj5 t223 t229).bind fun t232 => (if t187 = true then (if t203 = true then (if t219 = true then (if t232 = true then ((bitset_Set_And.f t160 t164).bind fun t233 => ((bitset_Set_Count.f kj5 t233).bind fun t236 => ((bitset_Set_Or.f t160 t164).bind fun t237 => ((bitset_Set_Count.f kj5 t237).bind fun t240 => ((bitset_Set_Count.f kj5 t160).bind fun t241 => ((bitset_Set_Count.f kj5 t164).bind fun t242 => (if (wrap64 (t236 + t240)) = (wrap64 (t241 + t242)) then ((bitset_Set_Not.f t160 a3).bind fun t243 => ((bitset_Set_And.f t243 t160).bind fun t246 => ((bitset_Set_Count.f kj5 t246).bind fun t249 => (some (t249 == 0))))) else (some false)))))))) else (some false)) else (some false)) else (some false)) else (some false))))) = some r := H
        have A34 := Aside0.mk A340
        clear A340
        replace H := Option.bind_eq_some_iff.mp H
        obtain ⟨t226, A350, H⟩ := H
        replace H : ((bitset_Set_And.f t160 t226).bind fun t229 => ((bitset_Same.f kj5 t223 t229).bind fun t232 => (if t187 = true then (if t203 = true then (if t219 = true then (if t232 = true then ((bitset_Set_And.f t160 t164).bind fun t233 => ((bitset_Set_Count.f kj5 t233).bind fun t236 => ((bitset_Set_Or.f t160 t164).bind fun t237 => ((bitset_Set_Count.f kj5 t237).bind fun t240 => ((bitset_Set_Count.f kj5 t160).bind fun t241 => ((bitset_Set_Count.f kj5 t164).bind fun t242 => (if (wrap64 (t236 + t240)) = (wrap64 (t241 + t242)) then ((bitset_Set_Not.f t160 a3).bind fun t243 => ((bitset_Set_And.f t243 t160).bind fun t246 => ((bitset_Set_Count.f kj5 t246).bind fun t249 => (some (t249 == 0))))) else (some false)))))))) else (some false)) else (some false)) else (some false)) else (some false)))) = some r := H
        have A35 := Aside0.mk A350
        clear A350
        replace H := Option.bind_eq_some_iff.mp H
        obtain ⟨t229, A360, H⟩ := H
        replace H : ((bitset_Same.f kj5 t223 t229).bind fun t232 => (if t187 = true then (if t203 = true then (if t219 = true then (if t232 = true then ((bitset_Set_And.f t160 t164).bind fun t233 => ((bitset_Set_Count.f kj5 t233).bind fun t236 => ((bitset_Set_Or.f t160 t164).bind fun t237 => ((bitset_Set_Count.f kj5 t237).bind fun t240 => ((bitset_Set_Count.f kj5 t160).bind fun t241 => ((bitset_Set_Count.f kj5 t164).bind fun t242 => (if (wrap64 (t236 + t240)) = (wrap64 (t241 + t242)) then ((bitset_Set_Not.f t160 a3).bind fun t243 => ((bitset_Set_And.f t243 t160).bind fun t246 => ((bitset_Set_Count.f kj5 t246).bind fun t249 => (some (t249 == 0))))) else (some false)))))))) else (some false)) else (some false)) else (some false)) else (some false))) = some r := H
        have A36 := Aside0.mk A360
        clear A360
        replace H := Option.bind_eq_some_iff.mp H
        obtain ⟨t232, A370, H⟩ := H
        replace H : (if t187 = true then (if t203 = true then (if t219 = true then (if t232 = true then ((bitset_Set_And.f t160 t164).bind fun t233 => ((bitset_Set_Count.f kj5 t233).bind fun t236 => ((bitset_Set_Or.f t160 t164).bind fun t237 => ((bitset_Set_Count.f kj5 t237).bind fun t240 => ((bitset_Set_Count.f kj5 t160).bind fun t241 => ((bitset_Set_Count.f kj5 t164).bind fun t242 => (if (wrap64 (t236 + t240)) = (wrap64 (t241 + t242)) then ((bitset_Set_Not.f t160 a3).bind fun t243 => ((bitset_Set_And.f t243 t160).bind fun t246 => ((bitset_Set_Count.f kj5 t246).bind fun t249 => (some (t249 == 0))))) else (some false)))))))) else (some false)) else (some false)) else (some false)) else (some false)) = some r := H
        have A37 := Aside0.mk A370
        clear A370
        by_cases c38 : t187 = true
        · subst c38
          have H1 : (if t203 = true then (if t219 = true then (if t232 = true then ((bitset_Set_And.f t160 t164).bind fun t233 => ((bitset_Set_Count.f kj5 t233).bind fun t236 => ((bitset_Set_Or.f t160 t164).bind fun t237 => ((bitset_Set_Count.f kj5 t237).bind fun t240 => ((bitset_Set_Count.f kj5 t160).bind fun t241 => ((bitset_Set_Count.f kj5 t164).bind fun t242 => (if (wrap64 (t236 + t240)) = (wrap64 (t241 + t242)) then ((bitset_Set_Not.f t160 a3).bind fun t243 => ((bitset_Set_And.f t243 t160).bind fun t246 => ((bitset_Set_Count.f kj5 t246).bind fun t249 => (some (t249 == 0))))) else (some false)))))))) else (some false)) else (some false)) else (some false)) = some r := by rw [if_pos rfl] at H; exact H
          clear H
          have H := H1
          clear H1
          by_cases c39 : t203 = true
          · subst c39
            have H1 : (if t219 = true then (if t232 = true then ((bitset_Set_And.f t160 t164).bind fun t233 => ((bitset_Set_Count.f kj5 t233).bind fun t236 => ((bitset_Set_Or.f t160 t164).bind fun t237 => ((bitset_Set_Count.f kj5 t237).bind fun t240 => ((bitset_Set_Count.f kj5 t160).bind fun t241 => ((bitset_Set_Count.f kj5 t164).bind fun t242 => (if (wrap64 (t236 + t240)) = (wrap64 (t241 + t242)) then ((bitset_Set_Not.f t160 a3).bind fun t243 => ((bitset_Set_And.f t243 t160).bind fun t246 => ((bitset_Set_Count.f kj5 t246).bind fun t249 => (some (t249 == 0))))) else (some false)))))))) else (some false)) else (some false)) = some r := by rw [if_pos rfl] at H; exact H
            clear H
            have H := H1
            clear H1
            by_cases c40 : t219 = true
            · subst c40
              have H1 : (if t232 = true then ((bitset_Set_And.f t160 t164).bind fun t233 => ((bitset_Set_Count.f kj5 t233).bind fun t236 => ((bitset_Set_Or.f t160 t164).bind fun t237 => ((bitset_Set_Count.f kj5 t237).bind fun t240 => ((bitset_Set_Count.f kj5 t160).bind fun t241 => ((bitset_Set_Count.f kj5 t164).bind fun t242 => (if (wrap64 (t236 + t240)) = (wrap64 (t241 + t242)) then ((bitset_Set_Not.f t160 a3).bind fun t243 => ((bitset_Set_And.f t243 t160).bind fun t246 => ((bitset_Set_Count.f kj5 t246).bind fun t249 => (some (t249 == 0))))) else (some false)))))))) else (some false)) = some r := by rw [if_pos rfl] at H; exact H
              clear H
              have H := H1
              clear H1
              by_cases c41 : t232 = true
              · subst c41
                have H1 : ((bitset_Set_And.f t160 t164).bind fun t233 => ((bitset_Set_Count.f kj5 t233).bind fun t236 => ((bitset_Set_Or.f t160 t164).bind fun t237 => ((bitset_Set_Count.f kj5 t237).bind fun t240 => ((bitset_Set_Count.f kj5 t160).bind fun t241 => ((bitset_Set_Count.f kj5 t164).bind fun t242 => (if (wrap64 (t236 + t240)) = (wrap64 (t241 + t242)) then ((bitset_Set_Not.f t160 a3).bind fun t243 => ((bitset_Set_And.f t243 t160).bind fun t246 => ((bitset_Set_Count.f kj5 t246).bind fun t249 => (some (t249 == 0))))) else (some false)))))))) = some r := by rw [if_pos rfl] at H; exact H
                clear H
                have H := H1
                clear H1
                replace H := Option.bind_eq_some_iff.mp H
                obtain ⟨t233, A420, H⟩ := H
                replace H : ((bitset_Set_Count.f kj5 t233).bind fun t236 => ((bitset_Set_Or.f t160 t164).bind fun t237 => ((bitset_Set_Count.f kj5 t237).bind fun t240 => ((bitset_Set_Count.f kj5 t160).bind fun t241 => ((bitset_Set_Count.f kj5 t164).bind fun t242 => (if (wrap64 (t236 + t240)) = (wrap64 (t241 + t242)) then ((bitset_Set_Not.f t160 a3).bind fun t243 => ((bitset_Set_And.f t243 t160).bind fun t246 => ((bitset_Set_Count.f kj5 t246).bind fun t249 => (some (t249 == 0))))) else (some false))))))) = some r := H
                have A42 := Aside0.mk A420
                clear A420
                replace H := Option.bind_eq_some_iff.mp H
                obtain ⟨t236, A430, H⟩ := H
                replace H : ((bitset_Set_Or.f t160 t164).bind fun t237 => ((bitset_Set_Count.f kj5 t237).bind fun t240 => ((bitset_Set_Count.f kj5 t160).bind fun t241 => ((bitset_Set_Count.f kj5 t164).bind fun t242 => (if (wrap64 (t236 + t240)) = (wrap64 (t241 + t242)) then ((bitset_Set_Not.f t160 a3).bind fun t243 => ((bitset_Set_And.f t243 t160).bind fun t246 => ((bitset_Set_Count.f kj5 t246).bind fun t249 => (some (t249 == 0))))) else (some false)))))) = some r := H
                have A43 := Aside0.mk A430
                clear A430
                replace H := Option.bind_eq_some_iff.mp H
                obtain ⟨t237, A440, H⟩ := H
                replace H : ((bitset_Set_Count.f kj5 t237).bind fun t240 => ((bitset_Set_Count.f kj5 t160).bind fun t241 => ((bitset_Set_Count.f kj5 t164).bind fun t242 => (if (wrap64 (t236 + t240)) = (wrap64 (t241 + t242)) then ((bitset_Set_Not.f t160 a3).bind fun t243 => ((bitset_Set_And.f t243 t160).bind fun t246 => ((bitset_Set_Count.f kj5 t246).bind fun t249 => (some (t249 == 0))))) else (some false))))) = some r := H
                have A44 := Aside0.mk A440
                clear A440
                replace H := Option.bind_eq_some_iff.mp H
                obtain ⟨t240, A450, H⟩ := H
                replace H : ((bitset_Set_Count.f kj5 t160).bind fun t241 => ((bitset_Set_Count.f kj5 t164).bind fun t242 => (if (wrap64 (t236 + t240)) = (wrap64 (t241 + t242)) then ((bitset_Set_Not.f t160 a3).bind fun t243 => ((bitset_Set_And.f t243 t160).bind fun t246 => ((bitset_Set_Count.f kj5 t246).bind fun t249 => (some (t249 == 0))))) else (some false)))) = some r := H
                have A45 := Aside0.mk A450
                clear A450
                replace H := Option.bind_eq_some_iff.mp H
                obtain ⟨t241, A460, H⟩ := H
                replace H : ((bitset_Set_Count.f kj5 t164).bind fun t242 => (if (wrap64 (t236 + t240)) = (wrap64 (t241 + t242)) then ((bitset_Set_Not.f t160 a3).bind fun t243 => ((bitset_Set_And.f t243 t160).bind fun t246 => ((bitset_Set_Count.f kj5 t246).bind fun t249 => (some (t249 == 0))))) else (some false))) = some r := H
                have A46 := Aside0.mk A460
                clear A460
                replace H := Option.bind_eq_some_iff.mp H
                obtain ⟨t242, A470, H⟩ := H
                replace H : (if (wrap64 (t236 + t240)) = (wrap64 (t241 + t242)) then ((bitset_Set_Not.f t160 a3).bind fun t243 => ((bitset_Set_And.f t243 t160).bind fun t246 => ((bitset_Set_Count.f kj5 t246).bind fun t249 => (some (t249 == 0))))) else (some false)) = some r := H
                have A47 := Aside0.mk A470
                clear A470
                by_cases c48 : (wrap64 (t236 + t240)) = (wrap64 (t241 + t242))
                · rw [if_pos c48] at H
                  have c48b0 : ((wrap64 (t236 + t240)) == (wrap64 (t241 + t242))) = true := beq_iff_eq.mpr c48
                  have c48b1 : ((wrap64 (t236 + t240)) != (wrap64 (t241 + t242))) = false := bne_eq_false_iff_eq.mpr c48
                  clear c48
                  replace H := Option.bind_eq_some_iff.mp H
                  obtain ⟨t243, A490, H⟩ := H
                  replace H : ((bitset_Set_And.f t243 t160).bind fun t246 => ((bitset_Set_Count.f kj5 t246).bind fun t249 => (some (t249 == 0)))) = some r := H
                  have A49 := Aside0.mk A490
                  clear A490
                  replace H := Option.bind_eq_some_iff.mp H
                  obtain ⟨t246, A500, H⟩ := H
                  replace H : ((bitset_Set_Count.f kj5 t246).bind fun t249 => (some (t249 == 0))) = some r := H
                  have A50 := Aside0.mk A500
                  clear A500
                  replace H := Option.bind_eq_some_iff.mp H
                  obtain ⟨t249, A510, H⟩ := H
                  replace H : (some (t249 == 0)) = some r := H
                  have A51 := Aside0.mk A510
                  clear A510
                  obtain rfl := Option.some.inj H
                  try go_wp2_with (first | ((with_reducible refine gate_callee (f := 8) rfl ?_); refine goesL_ (some 37) rfl rfl Tryd.func8 (by kernel_rfl) rfl #[.slice A0 l0.length c0] rfl (by (try simp only [List.map_toArray, List.map_cons, List.map_nil]); first | done | rfl | (simp only [List.length_drop, List.length_take]; rfl)) ?_; (with_reducible refine (bitset_Of.calls _ _ l0 t160 _ ?side1 ?side2 A12.out).mono ?_); (case side1 => repeat (first | exact (Kd.C_below HR0.out HB.out) | (with_reducible refine Kd.C_alloc ?_ _) | (with_reducible refine Kd.C_drewN ?_ _) | (with_reducible refine Kd.C_drew ?_))); (case side2 => exact HC0.out); rintro e w52 ⟨v161, rfl, ho0, hb⟩; refine ⟨_, rfl, ?_⟩; have n0_ := Aside0.mk (Kd.V_lower (Kd.V_mono (ok' := fun k_ => True) ho0 (fun k_ hk_ => trivial)) (below_size (by repeat (first | (with_reducible first | exact HB.out | apply below_alloc | apply pw_below_drewN | apply below_drew1) | exact HB.out)))); have n1_ := Aside0.mk (below_step (by repeat (first | (with_reducible first | exact HB.out | apply below_alloc | apply pw_below_drewN | apply below_drew1) | exact HB.out)) hb); clear HB; have HO162 := n0_; have HB := n1_; clear n0_ n1_; (try clear hb); (try clear hb2); (try clear hk); (try clear hi); (try clear ho0)) | ((with_reducible refine gate_dst (N := 10) rfl ?_); (try (refine gate_guard (by rfl) ?_; dsimp only)); refine box_event ?hg (N := 10) ?hd (cs := #[.slice none 0 0]) (t := 26) ?hr ?_; (case hd => rfl); (case hg => rfl); (case hr => first | (go_simp; done) | (go_simp; rfl)); intro gb163 hg w53 hbox hb; have n0_ := Aside0.mk (Kd.V_below (Kd.V_elderB (by (with_reducible repeat (first | apply Kd.V_alloc | apply Kd.V_drewN | apply Kd.V_drew)); exact HO162.out) gb163 (Nat.le_of_eq hg.symm)) hb); have n1_ := Aside0.mk (below_step (by repeat (first | (with_reducible first | exact HB.out | apply below_alloc | apply pw_below_drewN | apply below_drew1) | exact HB.out)) hb); have n2_ := Aside0.mk (hbox); have n4_ := Aside0.mk ((by rw [hg]; exact (below_size (by repeat (first | (with_reducible first | exact HB.out | apply below_alloc | apply pw_below_drewN | apply below_drew1) | exact HB.out))) : w.heap.size ≤ gb163)); clear HO162; clear HB; have HO162 := n0_; have HB := n1_; have BK163 := n2_; have GE163 := n4_; clear n0_ n1_ n2_ n4_; clear hb hbox hg; obtain ⟨Ao54, co54, eo54⟩ := Kd.V_slice HO162.out; subst eo54; have hcz55_0 : w53.cell? ⟨gb163, 0, none⟩ = some (.slice none 0 0) := (blk_cell BK163.out 0).trans rfl; have hfz55_0 := blk_frozen BK163.out 0) | ((with_reducible refine gate_callee (f := 8) rfl ?_); refine goesL_ (some 39) rfl rfl Tryd.func8 (by kernel_rfl) rfl #[.slice A1 l1.length c1] rfl (by (try simp only [List.map_toArray, List.map_cons, List.map_nil]); first | done | rfl | (simp only [List.length_drop, List.length_take]; rfl)) ?_; (with_reducible refine (bitset_Of.calls _ _ l1 t164 _ ?side1 ?side2 A13.out).mono ?_); (case side1 => exact Kd.C_below HR1.out (by repeat (first | (with_reducible first | exact HB.out | apply below_alloc | apply pw_below_drewN | apply below_drew1 | refine below_set ?_ GE163.out) | exact HB.out))); (case side2 => exact HC1.out); rintro e w56 ⟨v165, rfl, ho0, hb⟩; refine ⟨_, rfl, ?_⟩; have n0_ := Aside0.mk (Kd.V_below (by (with_reducible repeat (first | apply Kd.V_alloc | apply Kd.V_drewN | apply Kd.V_drew)); exact (Kd.V_mono (Kd.V_far (p := ⟨gb163, 0, none⟩) (Kd.V_mono HO162.out (fun k_ hk => (⟨hk, hk.2⟩ : _ ∧ k_ ≠ gb163))) (fun _ hk => hk.2) (.slice Ao54 t160.length co54)) (fun _ h_ => h_.1))) hb); have n1_ := Aside0.mk (Kd.V_lower (Kd.V_mono (ok' := fun k_ => k_ ≠ gb163) ho0 (fun k_ hk_ => (Kd.freshB (g := gb163) (o := .cells #[.slice Ao54 t160.length co54] 26 (0, 0)) (by (with_reducible repeat (first | refine blk_drewN ?_ _ | refine blk_drew ?_ | refine blk_alloc ?_ _)); refine blk_put (cs := #[.slice none 0 0]) ?_ 0 _ rfl; (with_reducible repeat (first | refine blk_drewN ?_ _ | refine blk_drew ?_ | refine blk_alloc ?_ _)); exact BK163.out) k_ hk_))) (below_size (by repeat (first | (with_reducible first | exact HB.out | apply below_alloc | apply pw_below_drewN | apply below_drew1 | refine below_set ?_ GE163.out) | exact HB.out)))); have n2_ := Aside0.mk (blk_below (g := gb163) (o := .cells #[.slice Ao54 t160.length co54] 26 (0, 0)) (by (with_reducible repeat (first | refine blk_drewN ?_ _ | refine blk_drew ?_ | refine blk_alloc ?_ _)); refine blk_put (cs := #[.slice none 0 0]) ?_ 0 _ rfl; (with_reducible repeat (first | refine blk_drewN ?_ _ | refine blk_drew ?_ | refine blk_alloc ?_ _)); exact BK163.out) hb); have n3_ := Aside0.mk (below_step (by repeat (first | (with_reducible first | exact HB.out | apply below_alloc | apply pw_below_drewN | apply below_drew1 | refine below_set ?_ GE163.out) | exact HB.out)) hb); clear HO162; clear BK163; clear HB; have HO162 := n0_; have HO166 := n1_; have BK163 := n2_; have HB := n3_; clear n0_ n1_ n2_ n3_; (try clear hb); (try clear hb2); (try clear hk); (try clear hi); (try clear ho0)) | ((with_reducible refine gate_dst (N := 11) rfl ?_); (try (refine gate_guard (by rfl) ?_; dsimp only)); refine box_event ?hg (N := 11) ?hd (cs := #[.slice none 0 0]) (t := 26) ?hr ?_; (case hd => rfl); (case hg => rfl); (case hr => first | (go_simp; done) | (go_simp; rfl)); intro gb167 hg w57 hbox hb; have n0_ := Aside0.mk (Kd.V_below (Kd.V_elderB (by (with_reducible repeat (first | apply Kd.V_alloc | apply Kd.V_drewN | apply Kd.V_drew)); exact HO162.out) gb167 (Nat.le_of_eq hg.symm)) hb); have n1_ := Aside0.mk (Kd.V_below (Kd.V_elderB (by (with_reducible repeat (first | apply Kd.V_alloc | apply Kd.V_drewN | apply Kd.V_drew)); exact HO166.out) gb167 (Nat.le_of_eq hg.symm)) hb); have n2_ := Aside0.mk (blk_below (g := gb163) (o := .cells #[.slice Ao54 t160.length co54] 26 (0, 0)) (by (with_reducible repeat (first | refine blk_drewN ?_ _ | refine blk_drew ?_ | refine blk_alloc ?_ _)); exact BK163.out) hb); have n3_ := Aside0.mk (below_step (by repeat (first | (with_reducible first | exact HB.out | apply below_alloc | apply pw_below_drewN | apply below_drew1 | refine below_set ?_ GE163.out) | exact HB.out)) hb); have n4_ := Aside0.mk (hbox); have n6_ := Aside0.mk ((by rw [hg]; exact (below_size (by repeat (first | (with_reducible first | exact HB.out | apply below_alloc | apply pw_below_drewN | apply below_drew1 | refine below_set ?_ GE163.out) | exact HB.out))) : w.heap.size ≤ gb167)); have n7_ := Aside0.mk ((by rw [hg]; exact Nat.ne_of_lt (blk_lt (g := gb163) (o := .cells #[.slice Ao54 t160.length co54] 26 (0, 0)) (by (with_reducible repeat (first | refine blk_drewN ?_ _ | refine blk_drew ?_ | refine blk_alloc ?_ _)); exact BK163.out)) : gb163 ≠ gb167)); have n8_ := Aside0.mk ((by rw [hg]; exact Nat.ne_of_gt (blk_lt (g := gb163) (o := .cells #[.slice Ao54 t160.length co54] 26 (0, 0)) (by (with_reducible repeat (first | refine blk_drewN ?_ _ | refine blk_drew ?_ | refine blk_alloc ?_ _)); exact BK163.out)) : gb167 ≠ gb163)); clear HO162; clear HO166; clear BK163; clear HB; have HO162 := n0_; have HO166 := n1_; have BK163 := n2_; have HB := n3_; have BK167 := n4_; have GE167 := n6_; have NB163_167 := n7_; have NB167_163 := n8_; clear n0_ n1_ n2_ n3_ n4_ n6_ n7_ n8_; clear hb hbox hg; obtain ⟨Ao58, co58, eo58⟩ := Kd.V_slice HO166.out; subst eo58; have hnb59 := NB167_163.out; have hnc59 := NB163_167.out; have hcz60_0 : w57.cell? ⟨gb167, 0, none⟩ = some (.slice none 0 0) := (blk_cell BK167.out 0).trans rfl; have hfz60_0 := blk_frozen BK167.out 0) | ((with_reducible refine gate_callee (f := 8) rfl ?_); refine goesL_ (some 41) rfl rfl Tryd.func8 (by kernel_rfl) rfl #[.slice A2 l2.length c2] rfl (by (try simp only [List.map_toArray, List.map_cons, List.map_nil]); first | done | rfl | (simp only [List.length_drop, List.length_take]; rfl)) ?_; (with_reducible refine (bitset_Of.calls _ _ l2 t168 _ ?side1 ?side2 A14.out).mono ?_); (case side1 => exact Kd.C_below HR2.out (by repeat (first | (with_reducible first | exact HB.out | apply below_alloc | apply pw_below_drewN | apply below_drew1 | refine below_set ?_ GE163.out | refine below_set ?_ GE167.out) | exact HB.out))); (case side2 => exact HC2.out); rintro e w61 ⟨v169, rfl, ho0, hb⟩; refine ⟨_, rfl, ?_⟩; have n0_ := Aside0.mk (Kd.V_below (by (with_reducible repeat (first | apply Kd.V_alloc | apply Kd.V_drewN | apply Kd.V_drew)); exact (Kd.V_mono (Kd.V_far (p := ⟨gb167, 0, none⟩) (Kd.V_mono HO162.out (fun k_ hk => (⟨hk, hk.2⟩ : _ ∧ k_ ≠ gb167))) (fun _ hk => hk.2) (.slice Ao58 t164.length co58)) (fun _ h_ => h_.1))) hb); have n1_ := Aside0.mk (Kd.V_below (by (with_reducible repeat (first | apply Kd.V_alloc | apply Kd.V_drewN | apply Kd.V_drew)); exact (Kd.V_mono (Kd.V_far (p := ⟨gb167, 0, none⟩) (Kd.V_mono HO166.out (fun k_ hk => (⟨hk, hk.2⟩ : _ ∧ k_ ≠ gb167))) (fun _ hk => hk.2) (.slice Ao58 t164.length co58)) (fun _ h_ => h_.1))) hb); have n2_ := Aside0.mk (Kd.V_lower (Kd.V_mono (ok' := fun k_ => k_ ≠ gb163 ∧ k_ ≠ gb167) ho0 (fun k_ hk_ => ⟨(Kd.freshB (g := gb163) (o := .cells #[.slice Ao54 t160.length co54] 26 (0, 0)) (by (with_reducible repeat (first | refine blk_drewN ?_ _ | refine blk_drew ?_ | refine blk_alloc ?_ _)); refine blk_far ?_ NB163_167.out _; (with_reducible repeat (first | refine blk_drewN ?_ _ | refine blk_drew ?_ | refine blk_alloc ?_ _)); exact BK163.out) k_ hk_), (Kd.freshB (g := gb167) (o := .cells #[.slice Ao58 t164.length co58] 26 (0, 0)) (by (with_reducible repeat (first | refine blk_drewN ?_ _ | refine blk_drew ?_ | refine blk_alloc ?_ _)); refine blk_put (cs := #[.slice none 0 0]) ?_ 0 _ rfl; (with_reducible repeat (first | refine blk_drewN ?_ _ | refine blk_drew ?_ | refine blk_alloc ?_ _)); exact BK167.out) k_ hk_)⟩)) (below_size (by repeat (first | (with_reducible first | exact HB.out | apply below_alloc | apply pw_below_drewN | apply below_drew1 | refine below_set ?_ GE163.out | refine below_set ?_ GE167.out) | exact HB.out)))); have n3_ := Aside0.mk (blk_below (g := gb163) (o := .cells #[.slice Ao54 t160.length co54] 26 (0, 0)) (by (with_reducible repeat (first | refine blk_drewN ?_ _ | refine blk_drew ?_ | refine blk_alloc ?_ _)); refine blk_far ?_ NB163_167.out _; (with_reducible repeat (first | refine blk_drewN ?_ _ | refine blk_drew ?_ | refine blk_alloc ?_ _)); exact BK163.out) hb); have n4_ := Aside0.mk (blk_below (g := gb167) (o := .cells #[.slice Ao58 t164.length co58] 26 (0, 0)) (by (with_reducible repeat (first | refine blk_drewN ?_ _ | refine blk_drew ?_ | refine blk_alloc ?_ _)); refine blk_put (cs := #[.slice none 0 0]) ?_ 0 _ rfl; (with_reducible repeat (first | refine blk_drewN ?_ _ | refine blk_drew ?_ | refine blk_alloc ?_ _)); exact BK167.out) hb); have n5_ := Aside0.mk (below_step (by repeat (first | (with_reducible first | exact HB.out | apply below_alloc | apply pw_below_drewN | apply below_drew1 | refine below_set ?_ GE163.out | refine below_set ?_ GE167.out) | exact HB.out)) hb); clear HO162; clear HO166; clear BK163; clear BK167; clear HB; have HO162 := n0_; have HO166 := n1_; have HO170 := n2_; have BK163 := n3_; have BK167 := n4_; have HB := n5_; clear n0_ n1_ n2_ n3_ n4_ n5_; (try clear hb); (try clear hb2); (try clear hk); (try clear hi); (try clear ho0)) | ((with_reducible refine gate_dst (N := 12) rfl ?_); (try (refine gate_guard (by rfl) ?_; dsimp only)); refine box_event ?hg (N := 12) ?hd (cs := #[.slice none 0 0]) (t := 26) ?hr ?_; (case hd => rfl); (case hg => rfl); (case hr => first | (go_simp; done) | (go_simp; rfl)); intro gb171 hg w62 hbox hb; have n0_ := Aside0.mk (Kd.V_below (Kd.V_elderB (by (with_reducible repeat (first | apply Kd.V_alloc | apply Kd.V_drewN | apply Kd.V_drew)); exact HO162.out) gb171 (Nat.le_of_eq hg.symm)) hb); have n1_ := Aside0.mk (Kd.V_below (Kd.V_elderB (by (with_reducible repeat (first | apply Kd.V_alloc | apply Kd.V_drewN | apply Kd.V_drew)); exact HO166.out) gb171 (Nat.le_of_eq hg.symm)) hb); have n2_ := Aside0.mk (Kd.V_below (Kd.V_elderB (by (with_reducible repeat (first | apply Kd.V_alloc | apply Kd.V_drewN | apply Kd.V_drew)); exact HO170.out) gb171 (Nat.le_of_eq hg.symm)) hb); have n3_ := Aside0.mk (blk_below (g := gb163) (o := .cells #[.slice Ao54 t160.length co54] 26 (0, 0)) (by (with_reducible repeat (first | refine blk_drewN ?_ _ | refine blk_drew ?_ | refine blk_alloc ?_ _)); exact BK163.out) hb); have n4_ := Aside0.mk (blk_below (g := gb167) (o := .cells #[.slice Ao58 t164.length co58] 26 (0, 0)) (by (with_reducible repeat (first | refine blk_drewN ?_ _ | refine blk_drew ?_ | refine blk_alloc ?_ _)); exact BK167.out) hb); have n5_ := Aside0.mk (below_step (by repeat (first | (with_reducible first | exact HB.out | apply below_alloc | apply pw_below_drewN | apply below_drew1 | refine below_set ?_ GE163.out | refine below_set ?_ GE167.out) | exact HB.out)) hb); have n6_ := Aside0.mk (hbox); have n8_ := Aside0.mk ((by rw [hg]; exact (below_size (by repeat (first | (with_reducible first | exact HB.out | apply below_alloc | apply pw_below_drewN | apply below_drew1 | refine below_set ?_ GE163.out | refine below_set ?_ GE167.out) | exact HB.out))) : w.heap.size ≤ gb171)); have n9_ := Aside0.mk ((by rw [hg]; exact Nat.ne_of_lt (blk_lt (g := gb163) (o := .cells #[.slice Ao54 t160.length co54] 26 (0, 0)) (by (with_reducible repeat (first | refine blk_drewN ?_ _ | refine blk_drew ?_ | refine blk_alloc ?_ _)); exact BK163.out)) : gb163 ≠ gb171)); have n10_ := Aside0.mk ((by rw [hg]; exact Nat.ne_of_gt (blk_lt (g := gb163) (o := .cells #[.slice Ao54 t160.length co54] 26 (0, 0)) (by (with_reducible repeat (first | refine blk_drewN ?_ _ | refine blk_drew ?_ | refine blk_alloc ?_ _)); exact BK163.out)) : gb171 ≠ gb163)); have n11_ := Aside0.mk ((by rw [hg]; exact Nat.ne_of_lt (blk_lt (g := gb167) (o := .cells #[.slice Ao58 t164.length co58] 26 (0, 0)) (by (with_reducible repeat (first | refine blk_drewN ?_ _ | refine blk_drew ?_ | refine blk_alloc ?_ _)); exact BK167.out)) : gb167 ≠ gb171)); have n12_ := Aside0.mk ((by rw [hg]; exact Nat.ne_of_gt (blk_lt (g := gb167) (o := .cells #[.slice Ao58 t164.length co58] 26 (0, 0)) (by (with_reducible repeat (first | refine blk_drewN ?_ _ | refine blk_drew ?_ | refine blk_alloc ?_ _)); exact BK167.out)) : gb171 ≠ gb167)); clear HO162; clear HO166; clear HO170; clear BK163; clear BK167; clear HB; have HO162 := n0_; have HO166 := n1_; have HO170 := n2_; have BK163 := n3_; have BK167 := n4_; have HB := n5_; have BK171 := n6_; have GE171 := n8_; have NB163_171 := n9_; have NB171_163 := n10_; have NB167_171 := n11_; have NB171_167 := n12_; clear n0_ n1_ n2_ n3_ n4_ n5_ n6_ n8_ n9_ n10_ n11_ n12_; clear hb hbox hg; obtain ⟨Ao63, co63, eo63⟩ := Kd.V_slice HO170.out; subst eo63; have hnb64 := NB171_163.out; have hnc64 := NB163_171.out; have hnb65 := NB171_167.out; have hnc65 := NB167_171.out; have hcz66_0 : w62.cell? ⟨gb171, 0, none⟩ = some (.slice none 0 0) := (blk_cell BK171.out 0).trans rfl; have hfz66_0 := blk_frozen BK171.out 0))
                  have n0_ : Aside0 (Kd.V (Kd.int .u64) 46 (w62.setCell ⟨gb171, 0, none⟩ (.slice Ao63 t168.length co63)) w.heap.size (fun k_ => k_ ≠ gb163 ∧ k_ ≠ gb167 ∧ k_ ≠ gb171) (.slice Ao54 t160.length co54) t160) := ⟨by (with_reducible repeat (first | apply Kd.V_alloc | apply Kd.V_drewN | apply Kd.V_drew)); exact Kd.V_mono (Kd.V_far (p := ⟨gb171, 0, none⟩) (Kd.V_mono HO162.out (fun k_ hk => (⟨hk, hk.2⟩ : _ ∧ k_ ≠ gb171))) (fun _ hk => hk.2) (.slice Ao63 t168.length co63)) (fun _ hk => ⟨hk.1.1.1.2, ⟨hk.1.1.2, hk.1.2⟩⟩)⟩
                  have n1_ : Aside0 (Kd.V (Kd.int .u64) 46 (w62.setCell ⟨gb171, 0, none⟩ (.slice Ao63 t168.length co63)) w.heap.size (fun k_ => k_ ≠ gb163 ∧ k_ ≠ gb167 ∧ k_ ≠ gb171) (.slice Ao58 t164.length co58) t164) := ⟨by (with_reducible repeat (first | apply Kd.V_alloc | apply Kd.V_drewN | apply Kd.V_drew)); exact Kd.V_mono (Kd.V_far (p := ⟨gb171, 0, none⟩) (Kd.V_mono HO166.out (fun k_ hk => (⟨hk, hk.2⟩ : _ ∧ k_ ≠ gb171))) (fun _ hk => hk.2) (.slice Ao63 t168.length co63)) (fun _ hk => ⟨hk.1.1.1, ⟨hk.1.1.2, hk.1.2⟩⟩)⟩
                  have n2_ : Aside0 (Kd.V (Kd.int .u64) 46 (w62.setCell ⟨gb171, 0, none⟩ (.slice Ao63 t168.length co63)) w.heap.size (fun k_ => k_ ≠ gb163 ∧ k_ ≠ gb167 ∧ k_ ≠ gb171) (.slice Ao63 t168.length co63) t168) := ⟨by (with_reducible repeat (first | apply Kd.V_alloc | apply Kd.V_drewN | apply Kd.V_drew)); exact Kd.V_mono (Kd.V_far (p := ⟨gb171, 0, none⟩) (Kd.V_mono HO170.out (fun k_ hk => (⟨hk, hk.2⟩ : _ ∧ k_ ≠ gb171))) (fun _ hk => hk.2) (.slice Ao63 t168.length co63)) (fun _ hk => ⟨hk.1.1.1, ⟨hk.1.1.2, hk.1.2⟩⟩)⟩
                  have n3_ : Aside0 ((w62.setCell ⟨gb171, 0, none⟩ (.slice Ao63 t168.length co63)).heap[gb163]? = some (.cells #[.slice Ao54 t160.length co54] 26 (0, 0))) := ⟨by (with_reducible repeat (first | refine blk_drewN ?_ _ | refine blk_drew ?_ | refine blk_alloc ?_ _)); refine blk_far ?_ NB163_171.out _; (with_reducible repeat (first | refine blk_drewN ?_ _ | refine blk_drew ?_ | refine blk_alloc ?_ _)); exact BK163.out⟩
                  have n4_ : Aside0 ((w62.setCell ⟨gb171, 0, none⟩ (.slice Ao63 t168.length co63)).heap[gb167]? = some (.cells #[.slice Ao58 t164.length co58] 26 (0, 0))) := ⟨by (with_reducible repeat (first | refine blk_drewN ?_ _ | refine blk_drew ?_ | refine blk_alloc ?_ _)); refine blk_far ?_ NB167_171.out _; (with_reducible repeat (first | refine blk_drewN ?_ _ | refine blk_drew ?_ | refine blk_alloc ?_ _)); exact BK167.out⟩
                  have n5_ : Aside0 ((w62.setCell ⟨gb171, 0, none⟩ (.slice Ao63 t168.length co63)).heap[gb171]? = some (.cells #[.slice Ao63 t168.length co63] 26 (0, 0))) := ⟨by (with_reducible repeat (first | refine blk_drewN ?_ _ | refine blk_drew ?_ | refine blk_alloc ?_ _)); refine blk_put (cs := #[.slice none 0 0]) ?_ 0 _ rfl; (with_reducible repeat (first | refine blk_drewN ?_ _ | refine blk_drew ?_ | refine blk_alloc ?_ _)); exact BK171.out⟩
                  have n6_ : Aside0 (Below w.heap.size w (w62.setCell ⟨gb171, 0, none⟩ (.slice Ao63 t168.length co63))) := ⟨by repeat (first | (with_reducible first | exact HB.out | apply below_alloc | apply pw_below_drewN | apply below_drew1 | refine below_set ?_ GE163.out | refine below_set ?_ GE167.out | refine below_set ?_ GE171.out) | exact HB.out)⟩
                  (try clear HO162); (try clear HO166); (try clear HO170); (try clear BK163); (try clear BK167); (try clear BK171); (try clear HB)
                  generalize (w62.setCell ⟨gb171, 0, none⟩ (.slice Ao63 t168.length co63)) = w67 at n0_ n1_ n2_ n3_ n4_ n5_ n6_ ⊢
                  have HO162 := n0_; have HO166 := n1_; have HO170 := n2_; have BK163 := n3_; have BK167 := n4_; have BK171 := n5_; have HB := n6_; clear n0_ n1_ n2_ n3_ n4_ n5_ n6_; have n0_ := Aside0.mk (Kd.V_drew HO162.out); have n1_ := Aside0.mk (Kd.V_drew HO166.out); have n2_ := Aside0.mk (Kd.V_drew HO170.out); have n3_ := Aside0.mk (blk_drew BK163.out); have n4_ := Aside0.mk (blk_drew BK167.out); have n5_ := Aside0.mk (blk_drew BK171.out); have n6_ := Aside0.mk (below_drew1 HB.out); clear HO162; clear HO166; clear HO170; clear BK163; clear BK167; clear BK171; clear HB; have HO162 := n0_; have HO166 := n1_; have HO170 := n2_; have BK163 := n3_; have BK167 := n4_; have BK171 := n5_; have HB := n6_; clear n0_ n1_ n2_ n3_ n4_ n5_ n6_
                  refine start_ (n := 14) (S := fun w' => w'.cell? ⟨gb163, 0, none⟩ = some (.slice Ao54 t160.length co54) ∧ w'.cell? ⟨gb167, 0, none⟩ = some (.slice Ao58 t164.length co58)) (ds := []) #[false, false, false, false, false, false, false, false, false, false, false, false, false, false] (by kernel_rfl) rfl rfl ⟨(blk_cell BK163.out 0).trans rfl, (blk_cell BK167.out 0).trans rfl⟩ (fun hHeld => ?_); refine with_tabW winnowerlaw09_BitsetLaws.tab7 winnowerlaw09_BitsetLaws.bits7 (fun HT_ HW_ => ?_)
                  generalize w67.drew = w68 at HO162 HO166 HO170 BK163 BK167 BK171 HB hHeld ⊢
                  refine pure_ (i := 3) (N := some 45) (v := ?_) (a' := ?_) #[false, false, false, true, false, false, false, false, false, false, false, false, false, false] rfl rfl (any_of HT_.out (by kernel_rfl)) (fun _ _ _ h => h) (Or.inl ⟨by rfl, ?_⟩) ?_ ?_
                  rotate_left
                  · intro w'
                    go_simp
                    with_reducible rfl
                  rotate_left
                  · simp only [Act.put, List.setIfInBounds_toArray, List.set_cons_zero, List.set_cons_succ, i64_w, i32_w]
                    rfl
                  refine pure_ (i := 6) (N := some 48) (v := ?_) (a' := ?_) #[false, false, false, true, false, false, true, false, false, false, false, false, false, false] rfl rfl (any_of HT_.out (by kernel_rfl)) (fun _ _ _ h => h) (Or.inl ⟨by rfl, ?_⟩) ?_ ?_
                  rotate_left
                  · intro w'
                    go_simp
                    with_reducible rfl
                  rotate_left
                  · simp only [Act.put, List.setIfInBounds_toArray, List.set_cons_zero, List.set_cons_succ, i64_w, i32_w]
                    rfl
                  refine pure_ (i := 9) (N := some 51) (v := ?_) (a' := ?_) #[false, false, false, true, false, false, true, false, false, true, false, false, false, false] rfl rfl (any_of HT_.out (by kernel_rfl)) (fun _ _ _ h => h) (Or.inl ⟨by rfl, ?_⟩) ?_ ?_
                  rotate_left
                  · intro w'
                    go_simp
                    with_reducible rfl
                  rotate_left
                  · simp only [Act.put, List.setIfInBounds_toArray, List.set_cons_zero, List.set_cons_succ, i64_w, i32_w]
                    rfl
                  refine take_ (i := 0) (N := some 42) (v := ?_) (a' := ?_) #[true, false, false, true, false, false, true, false, false, true, false, false, false, false] rfl rfl (take_ofW HT_.out HW_.out (by kernel_rfl)) (fun _ _ _ h => h) (Or.inl ⟨by rfl, ?_⟩) hHeld ?_ ?_
                  rotate_left
                  · rintro w' ⟨s0, s1⟩
                    go_simp
                    with_reducible rfl
                  rotate_left
                  · simp only [Act.put, List.setIfInBounds_toArray, List.set_cons_zero, List.set_cons_succ, i64_w, i32_w]
                    rfl
                  refine take_ (i := 1) (N := some 43) (v := ?_) (a' := ?_) #[true, true, false, true, false, false, true, false, false, true, false, false, false, false] rfl rfl (take_ofW HT_.out HW_.out (by kernel_rfl)) (fun _ _ _ h => h) (Or.inl ⟨by rfl, ?_⟩) hHeld ?_ ?_
                  rotate_left
                  · rintro w' ⟨s0, s1⟩
                    go_simp
                    with_reducible rfl
                  rotate_left
                  · simp only [Act.put, List.setIfInBounds_toArray, List.set_cons_zero, List.set_cons_succ, i64_w, i32_w]
                    rfl
                  refine take_ (i := 5) (N := some 47) (v := ?_) (a' := ?_) #[true, true, false, true, false, true, true, false, false, true, false, false, false, false] rfl rfl (take_ofW HT_.out HW_.out (by kernel_rfl)) (fun _ _ _ h => h) (Or.inl ⟨by rfl, ?_⟩) hHeld ?_ ?_
                  rotate_left
                  · rintro w' ⟨s0, s1⟩
                    go_simp
                    with_reducible rfl
                  rotate_left
                  · simp only [Act.put, List.setIfInBounds_toArray, List.set_cons_zero, List.set_cons_succ, i64_w, i32_w]
                    rfl
                  refine take_ (i := 8) (N := some 50) (v := ?_) (a' := ?_) #[true, true, false, true, false, true, true, false, true, true, false, false, false, false] rfl rfl (take_ofW HT_.out HW_.out (by kernel_rfl)) (fun _ _ _ h => h) (Or.inl ⟨by rfl, ?_⟩) hHeld ?_ ?_
                  rotate_left
                  · rintro w' ⟨s0, s1⟩
                    go_simp
                    with_reducible rfl
                  rotate_left
                  · simp only [Act.put, List.setIfInBounds_toArray, List.set_cons_zero, List.set_cons_succ, i64_w, i32_w]
                    rfl
                  refine one_ (i := 2) (N := some 44) #[true, true, true, true, false, true, true, false, true, true, false, false, false, false] rfl rfl (one_of HT_.out (by kernel_rfl)) (by decide) (fun K hK => ?_)
                  refine goes_ Tryd.func10 (by kernel_rfl) rfl #[.agg #[.slice Ao54 t160.length co54], .agg #[.slice Ao58 t164.length co58]] (by rfl) rfl rfl (by (try simp only [List.map_toArray, List.map_cons, List.map_nil]); first | done | rfl | (simp only [List.length_drop, List.length_take]; rfl)) ?_
                  with_reducible refine (bitset_Set_And.calls _ _ t160 _ _ t164 t172 _ ?side1 ?side2 ?side3 ?side4 A15.out).mono ?_
                  (case side1 => repeat (first | exact (Kd.V_reads' HO162.out).2.2 | (with_reducible refine Kd.C_alloc ?_ _) | (with_reducible refine Kd.C_drewN ?_ _) | (with_reducible refine Kd.C_drew ?_)))
                  (case side2 => exact (Kd.V_reads' HO162.out).2.1)
                  (case side3 => repeat (first | exact (Kd.V_reads' HO166.out).2.2 | (with_reducible refine Kd.C_alloc ?_ _) | (with_reducible refine Kd.C_drewN ?_ _) | (with_reducible refine Kd.C_drew ?_)))
                  (case side4 => exact (Kd.V_reads' HO166.out).2.1)
                  rintro e w69 ⟨v173, rfl, ho0, hb⟩
                  refine ⟨_, rfl, ?_⟩
                  have n0_ := Aside0.mk (Kd.V_below (by (with_reducible repeat (first | apply Kd.V_alloc | apply Kd.V_drewN | apply Kd.V_drew)); exact HO162.out) hb); have n1_ := Aside0.mk (Kd.V_below (by (with_reducible repeat (first | apply Kd.V_alloc | apply Kd.V_drewN | apply Kd.V_drew)); exact HO166.out) hb); have n2_ := Aside0.mk (Kd.V_below (by (with_reducible repeat (first | apply Kd.V_alloc | apply Kd.V_drewN | apply Kd.V_drew)); exact HO170.out) hb); have n3_ := Aside0.mk (Kd.V_lower (Kd.V_mono (ok' := fun k_ => k_ ≠ gb163 ∧ k_ ≠ gb167 ∧ k_ ≠ gb171) ho0 (fun k_ hk_ => ⟨(Kd.freshB (g := gb163) (o := .cells #[.slice Ao54 t160.length co54] 26 (0, 0)) (by (with_reducible repeat (first | refine blk_drewN ?_ _ | refine blk_drew ?_ | refine blk_alloc ?_ _)); exact BK163.out) k_ hk_), (Kd.freshB (g := gb167) (o := .cells #[.slice Ao58 t164.length co58] 26 (0, 0)) (by (with_reducible repeat (first | refine blk_drewN ?_ _ | refine blk_drew ?_ | refine blk_alloc ?_ _)); exact BK167.out) k_ hk_), (Kd.freshB (g := gb171) (o := .cells #[.slice Ao63 t168.length co63] 26 (0, 0)) (by (with_reducible repeat (first | refine blk_drewN ?_ _ | refine blk_drew ?_ | refine blk_alloc ?_ _)); exact BK171.out) k_ hk_)⟩)) (below_size (by repeat (first | (with_reducible first | exact HB.out | apply below_alloc | apply pw_below_drewN | apply below_drew1 | refine below_set ?_ GE163.out | refine below_set ?_ GE167.out | refine below_set ?_ GE171.out) | exact HB.out)))); have n4_ := Aside0.mk (blk_below (g := gb163) (o := .cells #[.slice Ao54 t160.length co54] 26 (0, 0)) (by (with_reducible repeat (first | refine blk_drewN ?_ _ | refine blk_drew ?_ | refine blk_alloc ?_ _)); exact BK163.out) hb); have n5_ := Aside0.mk (blk_below (g := gb167) (o := .cells #[.slice Ao58 t164.length co58] 26 (0, 0)) (by (with_reducible repeat (first | refine blk_drewN ?_ _ | refine blk_drew ?_ | refine blk_alloc ?_ _)); exact BK167.out) hb); have n6_ := Aside0.mk (blk_below (g := gb171) (o := .cells #[.slice Ao63 t168.length co63] 26 (0, 0)) (by (with_reducible repeat (first | refine blk_drewN ?_ _ | refine blk_drew ?_ | refine blk_alloc ?_ _)); exact BK171.out) hb); have n7_ := Aside0.mk (below_step (by repeat (first | (with_reducible first | exact HB.out | apply below_alloc | apply pw_below_drewN | apply below_drew1 | refine below_set ?_ GE163.out | refine below_set ?_ GE167.out | refine below_set ?_ GE171.out) | exact HB.out)) hb); clear HO162; clear HO166; clear HO170; clear BK163; clear BK167; clear BK171; clear HB; have HO162 := n0_; have HO166 := n1_; have HO170 := n2_; have HO174 := n3_; have BK163 := n4_; have BK167 := n5_; have BK171 := n6_; have HB := n7_; clear n0_ n1_ n2_ n3_ n4_ n5_ n6_ n7_; (try clear hb); (try clear hb2); (try clear hk); (try clear hi); (try clear ho0)
                  obtain ⟨Ao70, co70, eo70⟩ := Kd.V_slice HO174.out
                  (first | subst eo70 | (injection eo70 with f1_ f2_ f3_; have f4_ := f1_.symm; have f5_ := f3_.symm; clear f1_ f2_ f3_; subst f4_; subst f5_))
                  refine hK.out _ _ ⟨(blk_cell BK163.out 0).trans rfl, (blk_cell BK167.out 0).trans rfl⟩ (fun hHeld => ?_)
                  clear hK K
                  refine norm_ (a' := ?_) ?_ ?_
                  rotate_left
                  · show Act.put _ (some 44) _ = _
                    simp only [Act.put, List.setIfInBounds_toArray, List.set_cons_zero, List.set_cons_succ, i64_w, i32_w]
                    rfl
                  refine one_ (i := 4) (N := some 46) #[true, true, true, true, true, true, true, false, true, true, false, false, false, false] rfl rfl (one_of HT_.out (by kernel_rfl)) (by decide) (fun K hK => ?_)
                  refine goes_ Tryd.func11 (by kernel_rfl) rfl #[.agg #[.slice Ao70 t172.length co70], .int .i64 a3] (by rfl) rfl rfl (by (try simp only [List.map_toArray, List.map_cons, List.map_nil]); first | done | rfl | (simp only [List.length_drop, List.length_take]; rfl)) ?_
                  with_reducible refine (bitset_Set_Not.calls _ _ t172 a3 t175 _ ?side1 ?side2 A16.out).mono ?_
                  (case side1 => repeat (first | exact (Kd.V_reads' HO174.out).2.2 | (with_reducible refine Kd.C_alloc ?_ _) | (with_reducible refine Kd.C_drewN ?_ _) | (with_reducible refine Kd.C_drew ?_)))
                  (case side2 => exact (Kd.V_reads' HO174.out).2.1)
                  rintro e w71 ⟨v176, rfl, ho0, hb⟩
                  refine ⟨_, rfl, ?_⟩
                  have n0_ := Aside0.mk (Kd.V_below (by (with_reducible repeat (first | apply Kd.V_alloc | apply Kd.V_drewN | apply Kd.V_drew)); exact HO162.out) hb); have n1_ := Aside0.mk (Kd.V_below (by (with_reducible repeat (first | apply Kd.V_alloc | apply Kd.V_drewN | apply Kd.V_drew)); exact HO166.out) hb); have n2_ := Aside0.mk (Kd.V_below (by (with_reducible repeat (first | apply Kd.V_alloc | apply Kd.V_drewN | apply Kd.V_drew)); exact HO170.out) hb); have n4_ := Aside0.mk (Kd.V_lower (Kd.V_mono (ok' := fun k_ => k_ ≠ gb163 ∧ k_ ≠ gb167 ∧ k_ ≠ gb171) ho0 (fun k_ hk_ => ⟨(Kd.freshB (g := gb163) (o := .cells #[.slice Ao54 t160.length co54] 26 (0, 0)) (by (with_reducible repeat (first | refine blk_drewN ?_ _ | refine blk_drew ?_ | refine blk_alloc ?_ _)); exact BK163.out) k_ hk_), (Kd.freshB (g := gb167) (o := .cells #[.slice Ao58 t164.length co58] 26 (0, 0)) (by (with_reducible repeat (first | refine blk_drewN ?_ _ | refine blk_drew ?_ | refine blk_alloc ?_ _)); exact BK167.out) k_ hk_), (Kd.freshB (g := gb171) (o := .cells #[.slice Ao63 t168.length co63] 26 (0, 0)) (by (with_reducible repeat (first | refine blk_drewN ?_ _ | refine blk_drew ?_ | refine blk_alloc ?_ _)); exact BK171.out) k_ hk_)⟩)) (below_size (by repeat (first | (with_reducible first | exact HB.out | apply below_alloc | apply pw_below_drewN | apply below_drew1 | refine below_set ?_ GE163.out | refine below_set ?_ GE167.out | refine below_set ?_ GE171.out) | exact HB.out)))); have n5_ := Aside0.mk (blk_below (g := gb163) (o := .cells #[.slice Ao54 t160.length co54] 26 (0, 0)) (by (with_reducible repeat (first | refine blk_drewN ?_ _ | refine blk_drew ?_ | refine blk_alloc ?_ _)); exact BK163.out) hb); have n6_ := Aside0.mk (blk_below (g := gb167) (o := .cells #[.slice Ao58 t164.length co58] 26 (0, 0)) (by (with_reducible repeat (first | refine blk_drewN ?_ _ | refine blk_drew ?_ | refine blk_alloc ?_ _)); exact BK167.out) hb); have n7_ := Aside0.mk (blk_below (g := gb171) (o := .cells #[.slice Ao63 t168.length co63] 26 (0, 0)) (by (with_reducible repeat (first | refine blk_drewN ?_ _ | refine blk_drew ?_ | refine blk_alloc ?_ _)); exact BK171.out) hb); have n8_ := Aside0.mk (below_step (by repeat (first | (with_reducible first | exact HB.out | apply below_alloc | apply pw_below_drewN | apply below_drew1 | refine below_set ?_ GE163.out | refine below_set ?_ GE167.out | refine below_set ?_ GE171.out) | exact HB.out)) hb); clear HO162; clear HO166; clear HO170; clear HO174; clear BK163; clear BK167; clear BK171; clear HB; have HO162 := n0_; have HO166 := n1_; have HO170 := n2_; have HO177 := n4_; have BK163 := n5_; have BK167 := n6_; have BK171 := n7_; have HB := n8_; clear n0_ n1_ n2_ n4_ n5_ n6_ n7_ n8_; (try clear hb); (try clear hb2); (try clear hk); (try clear hi); (try clear ho0)
                  refine hK.out _ _ ⟨(blk_cell BK163.out 0).trans rfl, (blk_cell BK167.out 0).trans rfl⟩ (fun hHeld => ?_)
                  clear hK K
                  refine norm_ (a' := ?_) ?_ ?_
                  rotate_left
                  · show Act.put _ (some 46) _ = _
                    simp only [Act.put, List.setIfInBounds_toArray, List.set_cons_zero, List.set_cons_succ, i64_w, i32_w]
                    rfl
                  refine one_ (i := 7) (N := some 49) #[true, true, true, true, true, true, true, true, true, true, false, false, false, false] rfl rfl (one_of HT_.out (by kernel_rfl)) (by decide) (fun K hK => ?_)
                  refine goes_ Tryd.func11 (by kernel_rfl) rfl #[.agg #[.slice Ao54 t160.length co54], .int .i64 a3] (by rfl) rfl rfl (by (try simp only [List.map_toArray, List.map_cons, List.map_nil]); first | done | rfl | (simp only [List.length_drop, List.length_take]; rfl)) ?_
                  with_reducible refine (bitset_Set_Not.calls _ _ t160 a3 t178 _ ?side1 ?side2 A17.out).mono ?_
                  (case side1 => repeat (first | exact (Kd.V_reads' HO162.out).2.2 | (with_reducible refine Kd.C_alloc ?_ _) | (with_reducible refine Kd.C_drewN ?_ _) | (with_reducible refine Kd.C_drew ?_)))
                  (case side2 => exact (Kd.V_reads' HO162.out).2.1)
                  rintro e w72 ⟨v179, rfl, ho0, hb⟩
                  refine ⟨_, rfl, ?_⟩
                  have n0_ := Aside0.mk (Kd.V_below (by (with_reducible repeat (first | apply Kd.V_alloc | apply Kd.V_drewN | apply Kd.V_drew)); exact HO162.out) hb); have n1_ := Aside0.mk (Kd.V_below (by (with_reducible repeat (first | apply Kd.V_alloc | apply Kd.V_drewN | apply Kd.V_drew)); exact HO166.out) hb); have n2_ := Aside0.mk (Kd.V_below (by (with_reducible repeat (first | apply Kd.V_alloc | apply Kd.V_drewN | apply Kd.V_drew)); exact HO170.out) hb); have n4_ := Aside0.mk (Kd.V_below (by (with_reducible repeat (first | apply Kd.V_alloc | apply Kd.V_drewN | apply Kd.V_drew)); exact HO177.out) hb); have n5_ := Aside0.mk (Kd.V_lower (Kd.V_mono (ok' := fun k_ => k_ ≠ gb163 ∧ k_ ≠ gb167 ∧ k_ ≠ gb171) ho0 (fun k_ hk_ => ⟨(Kd.freshB (g := gb163) (o := .cells #[.slice Ao54 t160.length co54] 26 (0, 0)) (by (with_reducible repeat (first | refine blk_drewN ?_ _ | refine blk_drew ?_ | refine blk_alloc ?_ _)); exact BK163.out) k_ hk_), (Kd.freshB (g := gb167) (o := .cells #[.slice Ao58 t164.length co58] 26 (0, 0)) (by (with_reducible repeat (first | refine blk_drewN ?_ _ | refine blk_drew ?_ | refine blk_alloc ?_ _)); exact BK167.out) k_ hk_), (Kd.freshB (g := gb171) (o := .cells #[.slice Ao63 t168.length co63] 26 (0, 0)) (by (with_reducible repeat (first | refine blk_drewN ?_ _ | refine blk_drew ?_ | refine blk_alloc ?_ _)); exact BK171.out) k_ hk_)⟩)) (below_size (by repeat (first | (with_reducible first | exact HB.out | apply below_alloc | apply pw_below_drewN | apply below_drew1 | refine below_set ?_ GE163.out | refine below_set ?_ GE167.out | refine below_set ?_ GE171.out) | exact HB.out)))); have n6_ := Aside0.mk (blk_below (g := gb163) (o := .cells #[.slice Ao54 t160.length co54] 26 (0, 0)) (by (with_reducible repeat (first | refine blk_drewN ?_ _ | refine blk_drew ?_ | refine blk_alloc ?_ _)); exact BK163.out) hb); have n7_ := Aside0.mk (blk_below (g := gb167) (o := .cells #[.slice Ao58 t164.length co58] 26 (0, 0)) (by (with_reducible repeat (first | refine blk_drewN ?_ _ | refine blk_drew ?_ | refine blk_alloc ?_ _)); exact BK167.out) hb); have n8_ := Aside0.mk (blk_below (g := gb171) (o := .cells #[.slice Ao63 t168.length co63] 26 (0, 0)) (by (with_reducible repeat (first | refine blk_drewN ?_ _ | refine blk_drew ?_ | refine blk_alloc ?_ _)); exact BK171.out) hb); have n9_ := Aside0.mk (below_step (by repeat (first | (with_reducible first | exact HB.out | apply below_alloc | apply pw_below_drewN | apply below_drew1 | refine below_set ?_ GE163.out | refine below_set ?_ GE167.out | refine below_set ?_ GE171.out) | exact HB.out)) hb); clear HO162; clear HO166; clear HO170; clear HO177; clear BK163; clear BK167; clear BK171; clear HB; have HO162 := n0_; have HO166 := n1_; have HO170 := n2_; have HO177 := n4_; have HO180 := n5_; have BK163 := n6_; have BK167 := n7_; have BK171 := n8_; have HB := n9_; clear n0_ n1_ n2_ n4_ n5_ n6_ n7_ n8_ n9_; (try clear hb); (try clear hb2); (try clear hk); (try clear hi); (try clear ho0)
                  refine hK.out _ _ ⟨(blk_cell BK163.out 0).trans rfl, (blk_cell BK167.out 0).trans rfl⟩ (fun hHeld => ?_)
                  clear hK K
                  refine norm_ (a' := ?_) ?_ ?_
                  rotate_left
                  · show Act.put _ (some 49) _ = _
                    simp only [Act.put, List.setIfInBounds_toArray, List.set_cons_zero, List.set_cons_succ, i64_w, i32_w]
                    rfl
                  refine one_ (i := 10) (N := some 52) #[true, true, true, true, true, true, true, true, true, true, true, false, false, false] rfl rfl (one_of HT_.out (by kernel_rfl)) (by decide) (fun K hK => ?_)
                  refine goes_ Tryd.func11 (by kernel_rfl) rfl #[.agg #[.slice Ao58 t164.length co58], .int .i64 a3] (by rfl) rfl rfl (by (try simp only [List.map_toArray, List.map_cons, List.map_nil]); first | done | rfl | (simp only [List.length_drop, List.length_take]; rfl)) ?_
                  with_reducible refine (bitset_Set_Not.calls _ _ t164 a3 t181 _ ?side1 ?side2 A18.out).mono ?_
                  (case side1 => repeat (first | exact (Kd.V_reads' HO166.out).2.2 | (with_reducible refine Kd.C_alloc ?_ _) | (with_reducible refine Kd.C_drewN ?_ _) | (with_reducible refine Kd.C_drew ?_)))
                  (case side2 => exact (Kd.V_reads' HO166.out).2.1)
                  rintro e w73 ⟨v182, rfl, ho0, hb⟩
                  refine ⟨_, rfl, ?_⟩
                  have n0_ := Aside0.mk (Kd.V_below (by (with_reducible repeat (first | apply Kd.V_alloc | apply Kd.V_drewN | apply Kd.V_drew)); exact HO162.out) hb); have n1_ := Aside0.mk (Kd.V_below (by (with_reducible repeat (first | apply Kd.V_alloc | apply Kd.V_drewN | apply Kd.V_drew)); exact HO166.out) hb); have n2_ := Aside0.mk (Kd.V_below (by (with_reducible repeat (first | apply Kd.V_alloc | apply Kd.V_drewN | apply Kd.V_drew)); exact HO170.out) hb); have n4_ := Aside0.mk (Kd.V_below (by (with_reducible repeat (first | apply Kd.V_alloc | apply Kd.V_drewN | apply Kd.V_drew)); exact HO177.out) hb); have n5_ := Aside0.mk (Kd.V_below (by (with_reducible repeat (first | apply Kd.V_alloc | apply Kd.V_drewN | apply Kd.V_drew)); exact HO180.out) hb); have n6_ := Aside0.mk (Kd.V_lower (Kd.V_mono (ok' := fun k_ => k_ ≠ gb163 ∧ k_ ≠ gb167 ∧ k_ ≠ gb171) ho0 (fun k_ hk_ => ⟨(Kd.freshB (g := gb163) (o := .cells #[.slice Ao54 t160.length co54] 26 (0, 0)) (by (with_reducible repeat (first | refine blk_drewN ?_ _ | refine blk_drew ?_ | refine blk_alloc ?_ _)); exact BK163.out) k_ hk_), (Kd.freshB (g := gb167) (o := .cells #[.slice Ao58 t164.length co58] 26 (0, 0)) (by (with_reducible repeat (first | refine blk_drewN ?_ _ | refine blk_drew ?_ | refine blk_alloc ?_ _)); exact BK167.out) k_ hk_), (Kd.freshB (g := gb171) (o := .cells #[.slice Ao63 t168.length co63] 26 (0, 0)) (by (with_reducible repeat (first | refine blk_drewN ?_ _ | refine blk_drew ?_ | refine blk_alloc ?_ _)); exact BK171.out) k_ hk_)⟩)) (below_size (by repeat (first | (with_reducible first | exact HB.out | apply below_alloc | apply pw_below_drewN | apply below_drew1 | refine below_set ?_ GE163.out | refine below_set ?_ GE167.out | refine below_set ?_ GE171.out) | exact HB.out)))); have n7_ := Aside0.mk (blk_below (g := gb163) (o := .cells #[.slice Ao54 t160.length co54] 26 (0, 0)) (by (with_reducible repeat (first | refine blk_drewN ?_ _ | refine blk_drew ?_ | refine blk_alloc ?_ _)); exact BK163.out) hb); have n8_ := Aside0.mk (blk_below (g := gb167) (o := .cells #[.slice Ao58 t164.length co58] 26 (0, 0)) (by (with_reducible repeat (first | refine blk_drewN ?_ _ | refine blk_drew ?_ | refine blk_alloc ?_ _)); exact BK167.out) hb); have n9_ := Aside0.mk (blk_below (g := gb171) (o := .cells #[.slice Ao63 t168.length co63] 26 (0, 0)) (by (with_reducible repeat (first | refine blk_drewN ?_ _ | refine blk_drew ?_ | refine blk_alloc ?_ _)); exact BK171.out) hb); have n10_ := Aside0.mk (below_step (by repeat (first | (with_reducible first | exact HB.out | apply below_alloc | apply pw_below_drewN | apply below_drew1 | refine below_set ?_ GE163.out | refine below_set ?_ GE167.out | refine below_set ?_ GE171.out) | exact HB.out)) hb); clear HO162; clear HO166; clear HO170; clear HO177; clear HO180; clear BK163; clear BK167; clear BK171; clear HB; have HO162 := n0_; have HO166 := n1_; have HO170 := n2_; have HO177 := n4_; have HO180 := n5_; have HO183 := n6_; have BK163 := n7_; have BK167 := n8_; have BK171 := n9_
                  have HB := n10_; clear n0_ n1_ n2_ n4_ n5_ n6_ n7_ n8_ n9_ n10_; (try clear hb); (try clear hb2); (try clear hk); (try clear hi); (try clear ho0)
                  obtain ⟨Ao74, co74, eo74⟩ := Kd.V_slice HO180.out
                  (first | subst eo74 | (injection eo74 with f1_ f2_ f3_; have f4_ := f1_.symm; have f5_ := f3_.symm; clear f1_ f2_ f3_; subst f4_; subst f5_))
                  obtain ⟨Ao75, co75, eo75⟩ := Kd.V_slice HO183.out
                  (first | subst eo75 | (injection eo75 with f1_ f2_ f3_; have f4_ := f1_.symm; have f5_ := f3_.symm; clear f1_ f2_ f3_; subst f4_; subst f5_))
                  refine hK.out _ _ ⟨(blk_cell BK163.out 0).trans rfl, (blk_cell BK167.out 0).trans rfl⟩ (fun hHeld => ?_)
                  clear hK K
                  refine norm_ (a' := ?_) ?_ ?_
                  rotate_left
                  · show Act.put _ (some 52) _ = _
                    simp only [Act.put, List.setIfInBounds_toArray, List.set_cons_zero, List.set_cons_succ, i64_w, i32_w]
                    rfl
                  refine one_ (i := 11) (N := some 53) #[true, true, true, true, true, true, true, true, true, true, true, true, false, false] rfl rfl (one_of HT_.out (by kernel_rfl)) (by decide) (fun K hK => ?_)
                  refine goes_ Tryd.func12 (by kernel_rfl) rfl #[.agg #[.slice Ao74 t178.length co74], .agg #[.slice Ao75 t181.length co75]] (by rfl) rfl rfl (by (try simp only [List.map_toArray, List.map_cons, List.map_nil]); first | done | rfl | (simp only [List.length_drop, List.length_take]; rfl)) ?_
                  with_reducible refine (bitset_Set_Or.calls _ _ t178 _ _ t181 t184 _ ?side1 ?side2 ?side3 ?side4 A19.out).mono ?_
                  (case side1 => repeat (first | exact (Kd.V_reads' HO180.out).2.2 | (with_reducible refine Kd.C_alloc ?_ _) | (with_reducible refine Kd.C_drewN ?_ _) | (with_reducible refine Kd.C_drew ?_)))
                  (case side2 => exact (Kd.V_reads' HO180.out).2.1)
                  (case side3 => repeat (first | exact (Kd.V_reads' HO183.out).2.2 | (with_reducible refine Kd.C_alloc ?_ _) | (with_reducible refine Kd.C_drewN ?_ _) | (with_reducible refine Kd.C_drew ?_)))
                  (case side4 => exact (Kd.V_reads' HO183.out).2.1)
                  rintro e w76 ⟨v185, rfl, ho0, hb⟩
                  refine ⟨_, rfl, ?_⟩
                  have n0_ := Aside0.mk (Kd.V_below (by (with_reducible repeat (first | apply Kd.V_alloc | apply Kd.V_drewN | apply Kd.V_drew)); exact HO162.out) hb); have n1_ := Aside0.mk (Kd.V_below (by (with_reducible repeat (first | apply Kd.V_alloc | apply Kd.V_drewN | apply Kd.V_drew)); exact HO166.out) hb); have n2_ := Aside0.mk (Kd.V_below (by (with_reducible repeat (first | apply Kd.V_alloc | apply Kd.V_drewN | apply Kd.V_drew)); exact HO170.out) hb); have n4_ := Aside0.mk (Kd.V_below (by (with_reducible repeat (first | apply Kd.V_alloc | apply Kd.V_drewN | apply Kd.V_drew)); exact HO177.out) hb); have n7_ := Aside0.mk (Kd.V_lower (Kd.V_mono (ok' := fun k_ => k_ ≠ gb163 ∧ k_ ≠ gb167 ∧ k_ ≠ gb171) ho0 (fun k_ hk_ => ⟨(Kd.freshB (g := gb163) (o := .cells #[.slice Ao54 t160.length co54] 26 (0, 0)) (by (with_reducible repeat (first | refine blk_drewN ?_ _ | refine blk_drew ?_ | refine blk_alloc ?_ _)); exact BK163.out) k_ hk_), (Kd.freshB (g := gb167) (o := .cells #[.slice Ao58 t164.length co58] 26 (0, 0)) (by (with_reducible repeat (first | refine blk_drewN ?_ _ | refine blk_drew ?_ | refine blk_alloc ?_ _)); exact BK167.out) k_ hk_), (Kd.freshB (g := gb171) (o := .cells #[.slice Ao63 t168.length co63] 26 (0, 0)) (by (with_reducible repeat (first | refine blk_drewN ?_ _ | refine blk_drew ?_ | refine blk_alloc ?_ _)); exact BK171.out) k_ hk_)⟩)) (below_size (by repeat (first | (with_reducible first | exact HB.out | apply below_alloc | apply pw_below_drewN | apply below_drew1 | refine below_set ?_ GE163.out | refine below_set ?_ GE167.out | refine below_set ?_ GE171.out) | exact HB.out)))); have n8_ := Aside0.mk (blk_below (g := gb163) (o := .cells #[.slice Ao54 t160.length co54] 26 (0, 0)) (by (with_reducible repeat (first | refine blk_drewN ?_ _ | refine blk_drew ?_ | refine blk_alloc ?_ _)); exact BK163.out) hb); have n9_ := Aside0.mk (blk_below (g := gb167) (o := .cells #[.slice Ao58 t164.length co58] 26 (0, 0)) (by (with_reducible repeat (first | refine blk_drewN ?_ _ | refine blk_drew ?_ | refine blk_alloc ?_ _)); exact BK167.out) hb); have n10_ := Aside0.mk (blk_below (g := gb171) (o := .cells #[.slice Ao63 t168.length co63] 26 (0, 0)) (by (with_reducible repeat (first | refine blk_drewN ?_ _ | refine blk_drew ?_ | refine blk_alloc ?_ _)); exact BK171.out) hb); have n11_ := Aside0.mk (below_step (by repeat (first | (with_reducible first | exact HB.out | apply below_alloc | apply pw_below_drewN | apply below_drew1 | refine below_set ?_ GE163.out | refine below_set ?_ GE167.out | refine below_set ?_ GE171.out) | exact HB.out)) hb); clear HO162; clear HO166; clear HO170; clear HO177; clear HO180; clear HO183; clear BK163; clear BK167; clear BK171; clear HB; have HO162 := n0_; have HO166 := n1_; have HO170 := n2_; have HO177 := n4_; have HO186 := n7_; have BK163 := n8_; have BK167 := n9_; have BK171 := n10_; have HB := n11_; clear n0_ n1_ n2_ n4_ n7_ n8_ n9_ n10_ n11_; (try clear hb); (try clear hb2); (try clear hk); (try clear hi); (try clear ho0)
                  obtain ⟨Ao77, co77, eo77⟩ := Kd.V_slice HO177.out
                  (first | subst eo77 | (injection eo77 with f1_ f2_ f3_; have f4_ := f1_.symm; have f5_ := f3_.symm; clear f1_ f2_ f3_; subst f4_; subst f5_))
                  obtain ⟨Ao78, co78, eo78⟩ := Kd.V_slice HO186.out
                  (first | subst eo78 | (injection eo78 with f1_ f2_ f3_; have f4_ := f1_.symm; have f5_ := f3_.symm; clear f1_ f2_ f3_; subst f4_; subst f5_))
                  refine hK.out _ _ ⟨(blk_cell BK163.out 0).trans rfl, (blk_cell BK167.out 0).trans rfl⟩ (fun hHeld => ?_)
                  clear hK K
                  refine norm_ (a' := ?_) ?_ ?_
                  rotate_left
                  · show Act.put _ (some 53) _ = _
                    simp only [Act.put, List.setIfInBounds_toArray, List.set_cons_zero, List.set_cons_succ, i64_w, i32_w]
                    rfl
                  refine one_ (i := 12) (N := some 54) #[true, true, true, true, true, true, true, true, true, true, true, true, true, false] rfl rfl (one_of HT_.out (by kernel_rfl)) (by decide) (fun K hK => ?_)
                  refine goes_ Tryd.func9 (by kernel_rfl) rfl #[.agg #[.slice Ao77 t175.length co77], .agg #[.slice Ao78 t184.length co78]] (by rfl) rfl rfl (by (try simp only [List.map_toArray, List.map_cons, List.map_nil]); first | done | rfl | (simp only [List.length_drop, List.length_take]; rfl)) ?_
                  with_reducible refine (bitset_Same.calls kj5 _ _ t175 _ _ t184 true _ ?side1 ?side2 ?side3 ?side4 A20.out).mono ?_
                  (case side1 => repeat (first | exact (Kd.V_reads' HO177.out).2.2 | (with_reducible refine Kd.C_alloc ?_ _) | (with_reducible refine Kd.C_drewN ?_ _) | (with_reducible refine Kd.C_drew ?_)))
                  (case side2 => exact (Kd.V_reads' HO177.out).2.1)
                  (case side3 => repeat (first | exact (Kd.V_reads' HO186.out).2.2 | (with_reducible refine Kd.C_alloc ?_ _) | (with_reducible refine Kd.C_drewN ?_ _) | (with_reducible refine Kd.C_drew ?_)))
                  (case side4 => exact (Kd.V_reads' HO186.out).2.1)
                  rintro e w79 ⟨rfl, hb⟩
                  refine ⟨_, rfl, ?_⟩
                  have n0_ := Aside0.mk (Kd.V_below (by (with_reducible repeat (first | apply Kd.V_alloc | apply Kd.V_drewN | apply Kd.V_drew)); exact HO162.out) hb); have n1_ := Aside0.mk (Kd.V_below (by (with_reducible repeat (first | apply Kd.V_alloc | apply Kd.V_drewN | apply Kd.V_drew)); exact HO166.out) hb); have n2_ := Aside0.mk (Kd.V_below (by (with_reducible repeat (first | apply Kd.V_alloc | apply Kd.V_drewN | apply Kd.V_drew)); exact HO170.out) hb); have n8_ := Aside0.mk (blk_below (g := gb163) (o := .cells #[.slice Ao54 t160.length co54] 26 (0, 0)) (by (with_reducible repeat (first | refine blk_drewN ?_ _ | refine blk_drew ?_ | refine blk_alloc ?_ _)); exact BK163.out) hb); have n9_ := Aside0.mk (blk_below (g := gb167) (o := .cells #[.slice Ao58 t164.length co58] 26 (0, 0)) (by (with_reducible repeat (first | refine blk_drewN ?_ _ | refine blk_drew ?_ | refine blk_alloc ?_ _)); exact BK167.out) hb); have n10_ := Aside0.mk (blk_below (g := gb171) (o := .cells #[.slice Ao63 t168.length co63] 26 (0, 0)) (by (with_reducible repeat (first | refine blk_drewN ?_ _ | refine blk_drew ?_ | refine blk_alloc ?_ _)); exact BK171.out) hb); have n11_ := Aside0.mk (below_step (by repeat (first | (with_reducible first | exact HB.out | apply below_alloc | apply pw_below_drewN | apply below_drew1 | refine below_set ?_ GE163.out | refine below_set ?_ GE167.out | refine below_set ?_ GE171.out) | exact HB.out)) hb); clear HO162; clear HO166; clear HO170; clear HO177; clear HO186; clear BK163; clear BK167; clear BK171; clear HB; have HO162 := n0_; have HO166 := n1_; have HO170 := n2_; have BK163 := n8_; have BK167 := n9_; have BK171 := n10_; have HB := n11_; clear n0_ n1_ n2_ n8_ n9_ n10_ n11_; (try clear hb); (try clear hb2); (try clear hk); (try clear hi)
                  refine hK.out _ _ ⟨(blk_cell BK163.out 0).trans rfl, (blk_cell BK167.out 0).trans rfl⟩ (fun hHeld => ?_)
                  clear hK K
                  refine norm_ (a' := ?_) ?_ ?_
                  rotate_left
                  · show Act.put _ (some 54) _ = _
                    simp only [Act.put, List.setIfInBounds_toArray, List.set_cons_zero, List.set_cons_succ, i64_w, i32_w]
                    rfl
                  refine pure_ (i := 13) (N := some 13) (v := ?_) (a' := ?_) #[true, true, true, true, true, true, true, true, true, true, true, true, true, true] rfl rfl (any_of HT_.out (by kernel_rfl)) (fun _ _ _ h => h) (Or.inl ⟨by rfl, ?_⟩) ?_ ?_
                  rotate_left
                  · intro w'
                    go_simp
                    with_reducible rfl
                  rotate_left
                  · simp only [Act.put, List.setIfInBounds_toArray, List.set_cons_zero, List.set_cons_succ, i64_w, i32_w]
                    rfl
                  refine done_ (done_of HT_.out (by kernel_rfl)) ?_
                  try go_wp2
                  have n0_ := Aside0.mk (Kd.V_drew HO162.out); have n1_ := Aside0.mk (Kd.V_drew HO166.out); have n2_ := Aside0.mk (Kd.V_drew HO170.out); have n8_ := Aside0.mk (blk_drew BK163.out); have n9_ := Aside0.mk (blk_drew BK167.out); have n10_ := Aside0.mk (blk_drew BK171.out); have n11_ := Aside0.mk (below_drew1 HB.out); clear HO162; clear HO166; clear HO170; clear BK163; clear BK167; clear BK171; clear HB; have HO162 := n0_; have HO166 := n1_; have HO170 := n2_; have BK163 := n8_; have BK167 := n9_; have BK171 := n10_; have HB := n11_; clear n0_ n1_ n2_ n8_ n9_ n10_ n11_
                  refine start_ (n := 14) (S := fun w' => w'.cell? ⟨gb163, 0, none⟩ = some (.slice Ao54 t160.length co54) ∧ w'.cell? ⟨gb167, 0, none⟩ = some (.slice Ao58 t164.length co58)) (ds := []) #[false, false, false, false, false, false, false, false, false, false, false, false, false, false] (by kernel_rfl) rfl rfl ⟨(blk_cell BK163.out 0).trans rfl, (blk_cell BK167.out 0).trans rfl⟩ (fun hHeld => ?_); refine with_tabW winnowerlaw09_BitsetLaws.tab8 winnowerlaw09_BitsetLaws.bits8 (fun HT_ HW_ => ?_)
                  generalize w79.drew = w80 at HO162 HO166 HO170 BK163 BK167 BK171 HB hHeld ⊢
                  refine pure_ (i := 3) (N := some 58) (v := ?_) (a' := ?_) #[false, false, false, true, false, false, false, false, false, false, false, false, false, false] rfl rfl (any_of HT_.out (by kernel_rfl)) (fun _ _ _ h => h) (Or.inl ⟨by rfl, ?_⟩) ?_ ?_
                  rotate_left
                  · intro w'
                    go_simp
                    with_reducible rfl
                  rotate_left
                  · simp only [Act.put, List.setIfInBounds_toArray, List.set_cons_zero, List.set_cons_succ, i64_w, i32_w]
                    rfl
                  refine pure_ (i := 6) (N := some 61) (v := ?_) (a' := ?_) #[false, false, false, true, false, false, true, false, false, false, false, false, false, false] rfl rfl (any_of HT_.out (by kernel_rfl)) (fun _ _ _ h => h) (Or.inl ⟨by rfl, ?_⟩) ?_ ?_
                  rotate_left
                  · intro w'
                    go_simp
                    with_reducible rfl
                  rotate_left
                  · simp only [Act.put, List.setIfInBounds_toArray, List.set_cons_zero, List.set_cons_succ, i64_w, i32_w]
                    rfl
                  refine pure_ (i := 9) (N := some 64) (v := ?_) (a' := ?_) #[false, false, false, true, false, false, true, false, false, true, false, false, false, false] rfl rfl (any_of HT_.out (by kernel_rfl)) (fun _ _ _ h => h) (Or.inl ⟨by rfl, ?_⟩) ?_ ?_
                  rotate_left
                  · intro w'
                    go_simp
                    with_reducible rfl
                  rotate_left
                  · simp only [Act.put, List.setIfInBounds_toArray, List.set_cons_zero, List.set_cons_succ, i64_w, i32_w]
                    rfl
                  refine take_ (i := 0) (N := some 55) (v := ?_) (a' := ?_) #[true, false, false, true, false, false, true, false, false, true, false, false, false, false] rfl rfl (take_ofW HT_.out HW_.out (by kernel_rfl)) (fun _ _ _ h => h) (Or.inl ⟨by rfl, ?_⟩) hHeld ?_ ?_
                  rotate_left
                  · rintro w' ⟨s0, s1⟩
                    go_simp
                    with_reducible rfl
                  rotate_left
                  · simp only [Act.put, List.setIfInBounds_toArray, List.set_cons_zero, List.set_cons_succ, i64_w, i32_w]
                    rfl
                  refine take_ (i := 1) (N := some 56) (v := ?_) (a' := ?_) #[true, true, false, true, false, false, true, false, false, true, false, false, false, false] rfl rfl (take_ofW HT_.out HW_.out (by kernel_rfl)) (fun _ _ _ h => h) (Or.inl ⟨by rfl, ?_⟩) hHeld ?_ ?_
                  rotate_left
                  · rintro w' ⟨s0, s1⟩
                    go_simp
                    with_reducible rfl
                  rotate_left
                  · simp only [Act.put, List.setIfInBounds_toArray, List.set_cons_zero, List.set_cons_succ, i64_w, i32_w]
                    rfl
                  refine take_ (i := 5) (N := some 60) (v := ?_) (a' := ?_) #[true, true, false, true, false, true, true, false, false, true, false, false, false, false] rfl rfl (take_ofW HT_.out HW_.out (by kernel_rfl)) (fun _ _ _ h => h) (Or.inl ⟨by rfl, ?_⟩) hHeld ?_ ?_
                  rotate_left
                  · rintro w' ⟨s0, s1⟩
                    go_simp
                    with_reducible rfl
                  rotate_left
                  · simp only [Act.put, List.setIfInBounds_toArray, List.set_cons_zero, List.set_cons_succ, i64_w, i32_w]
                    rfl
                  refine take_ (i := 8) (N := some 63) (v := ?_) (a' := ?_) #[true, true, false, true, false, true, true, false, true, true, false, false, false, false] rfl rfl (take_ofW HT_.out HW_.out (by kernel_rfl)) (fun _ _ _ h => h) (Or.inl ⟨by rfl, ?_⟩) hHeld ?_ ?_
                  rotate_left
                  · rintro w' ⟨s0, s1⟩
                    go_simp
                    with_reducible rfl
                  rotate_left
                  · simp only [Act.put, List.setIfInBounds_toArray, List.set_cons_zero, List.set_cons_succ, i64_w, i32_w]
                    rfl
                  refine one_ (i := 2) (N := some 57) #[true, true, true, true, false, true, true, false, true, true, false, false, false, false] rfl rfl (one_of HT_.out (by kernel_rfl)) (by decide) (fun K hK => ?_)
                  refine goes_ Tryd.func12 (by kernel_rfl) rfl #[.agg #[.slice Ao54 t160.length co54], .agg #[.slice Ao58 t164.length co58]] (by rfl) rfl rfl (by (try simp only [List.map_toArray, List.map_cons, List.map_nil]); first | done | rfl | (simp only [List.length_drop, List.length_take]; rfl)) ?_
                  with_reducible refine (bitset_Set_Or.calls _ _ t160 _ _ t164 t188 _ ?side1 ?side2 ?side3 ?side4 A21.out).mono ?_
                  (case side1 => repeat (first | exact (Kd.V_reads' HO162.out).2.2 | (with_reducible refine Kd.C_alloc ?_ _) | (with_reducible refine Kd.C_drewN ?_ _) | (with_reducible refine Kd.C_drew ?_)))
                  (case side2 => exact (Kd.V_reads' HO162.out).2.1)
                  (case side3 => repeat (first | exact (Kd.V_reads' HO166.out).2.2 | (with_reducible refine Kd.C_alloc ?_ _) | (with_reducible refine Kd.C_drewN ?_ _) | (with_reducible refine Kd.C_drew ?_)))
                  (case side4 => exact (Kd.V_reads' HO166.out).2.1)
                  rintro e w81 ⟨v189, rfl, ho0, hb⟩
                  refine ⟨_, rfl, ?_⟩
                  have n0_ := Aside0.mk (Kd.V_below (by (with_reducible repeat (first | apply Kd.V_alloc | apply Kd.V_drewN | apply Kd.V_drew)); exact HO162.out) hb); have n1_ := Aside0.mk (Kd.V_below (by (with_reducible repeat (first | apply Kd.V_alloc | apply Kd.V_drewN | apply Kd.V_drew)); exact HO166.out) hb); have n2_ := Aside0.mk (Kd.V_below (by (with_reducible repeat (first | apply Kd.V_alloc | apply Kd.V_drewN | apply Kd.V_drew)); exact HO170.out) hb); have n8_ := Aside0.mk (Kd.V_lower (Kd.V_mono (ok' := fun k_ => k_ ≠ gb163 ∧ k_ ≠ gb167 ∧ k_ ≠ gb171) ho0 (fun k_ hk_ => ⟨(Kd.freshB (g := gb163) (o := .cells #[.slice Ao54 t160.length co54] 26 (0, 0)) (by (with_reducible repeat (first | refine blk_drewN ?_ _ | refine blk_drew ?_ | refine blk_alloc ?_ _)); exact BK163.out) k_ hk_), (Kd.freshB (g := gb167) (o := .cells #[.slice Ao58 t164.length co58] 26 (0, 0)) (by (with_reducible repeat (first | refine blk_drewN ?_ _ | refine blk_drew ?_ | refine blk_alloc ?_ _)); exact BK167.out) k_ hk_), (Kd.freshB (g := gb171) (o := .cells #[.slice Ao63 t168.length co63] 26 (0, 0)) (by (with_reducible repeat (first | refine blk_drewN ?_ _ | refine blk_drew ?_ | refine blk_alloc ?_ _)); exact BK171.out) k_ hk_)⟩)) (below_size (by repeat (first | (with_reducible first | exact HB.out | apply below_alloc | apply pw_below_drewN | apply below_drew1 | refine below_set ?_ GE163.out | refine below_set ?_ GE167.out | refine below_set ?_ GE171.out) | exact HB.out)))); have n9_ := Aside0.mk (blk_below (g := gb163) (o := .cells #[.slice Ao54 t160.length co54] 26 (0, 0)) (by (with_reducible repeat (first | refine blk_drewN ?_ _ | refine blk_drew ?_ | refine blk_alloc ?_ _)); exact BK163.out) hb); have n10_ := Aside0.mk (blk_below (g := gb167) (o := .cells #[.slice Ao58 t164.length co58] 26 (0, 0)) (by (with_reducible repeat (first | refine blk_drewN ?_ _ | refine blk_drew ?_ | refine blk_alloc ?_ _)); exact BK167.out) hb); have n11_ := Aside0.mk (blk_below (g := gb171) (o := .cells #[.slice Ao63 t168.length co63] 26 (0, 0)) (by (with_reducible repeat (first | refine blk_drewN ?_ _ | refine blk_drew ?_ | refine blk_alloc ?_ _)); exact BK171.out) hb); have n12_ := Aside0.mk (below_step (by repeat (first | (with_reducible first | exact HB.out | apply below_alloc | apply pw_below_drewN | apply below_drew1 | refine below_set ?_ GE163.out | refine below_set ?_ GE167.out | refine below_set ?_ GE171.out) | exact HB.out)) hb); clear HO162; clear HO166; clear HO170; clear BK163; clear BK167; clear BK171; clear HB; have HO162 := n0_; have HO166 := n1_; have HO170 := n2_; have HO190 := n8_; have BK163 := n9_; have BK167 := n10_; have BK171 := n11_; have HB := n12_; clear n0_ n1_ n2_ n8_ n9_ n10_ n11_ n12_; (try clear hb); (try clear hb2); (try clear hk); (try clear hi); (try clear ho0)
                  obtain ⟨Ao82, co82, eo82⟩ := Kd.V_slice HO190.out
                  (first | subst eo82 | (injection eo82 with f1_ f2_ f3_; have f4_ := f1_.symm; have f5_ := f3_.symm; clear f1_ f2_ f3_; subst f4_; subst f5_))
                  refine hK.out _ _ ⟨(blk_cell BK163.out 0).trans rfl, (blk_cell BK167.out 0).trans rfl⟩ (fun hHeld => ?_)
                  clear hK K
                  refine norm_ (a' := ?_) ?_ ?_
                  rotate_left
                  · show Act.put _ (some 57) _ = _
                    simp only [Act.put, List.setIfInBounds_toArray, List.set_cons_zero, List.set_cons_succ, i64_w, i32_w]
                    rfl
                  refine one_ (i := 4) (N := some 59) #[true, true, true, true, true, true, true, false, true, true, false, false, false, false] rfl rfl (one_of HT_.out (by kernel_rfl)) (by decide) (fun K hK => ?_)
                  refine goes_ Tryd.func11 (by kernel_rfl) rfl #[.agg #[.slice Ao82 t188.length co82], .int .i64 a3] (by rfl) rfl rfl (by (try simp only [List.map_toArray, List.map_cons, List.map_nil]); first | done | rfl | (simp only [List.length_drop, List.length_take]; rfl)) ?_
                  with_reducible refine (bitset_Set_Not.calls _ _ t188 a3 t191 _ ?side1 ?side2 A22.out).mono ?_
                  (case side1 => repeat (first | exact (Kd.V_reads' HO190.out).2.2 | (with_reducible refine Kd.C_alloc ?_ _) | (with_reducible refine Kd.C_drewN ?_ _) | (with_reducible refine Kd.C_drew ?_)))
                  (case side2 => exact (Kd.V_reads' HO190.out).2.1)
                  rintro e w83 ⟨v192, rfl, ho0, hb⟩
                  refine ⟨_, rfl, ?_⟩
                  have n0_ := Aside0.mk (Kd.V_below (by (with_reducible repeat (first | apply Kd.V_alloc | apply Kd.V_drewN | apply Kd.V_drew)); exact HO162.out) hb); have n1_ := Aside0.mk (Kd.V_below (by (with_reducible repeat (first | apply Kd.V_alloc | apply Kd.V_drewN | apply Kd.V_drew)); exact HO166.out) hb); have n2_ := Aside0.mk (Kd.V_below (by (with_reducible repeat (first | apply Kd.V_alloc | apply Kd.V_drewN | apply Kd.V_drew)); exact HO170.out) hb); have n9_ := Aside0.mk (Kd.V_lower (Kd.V_mono (ok' := fun k_ => k_ ≠ gb163 ∧ k_ ≠ gb167 ∧ k_ ≠ gb171) ho0 (fun k_ hk_ => ⟨(Kd.freshB (g := gb163) (o := .cells #[.slice Ao54 t160.length co54] 26 (0, 0)) (by (with_reducible repeat (first | refine blk_drewN ?_ _ | refine blk_drew ?_ | refine blk_alloc ?_ _)); exact BK163.out) k_ hk_), (Kd.freshB (g := gb167) (o := .cells #[.slice Ao58 t164.length co58] 26 (0, 0)) (by (with_reducible repeat (first | refine blk_drewN ?_ _ | refine blk_drew ?_ | refine blk_alloc ?_ _)); exact BK167.out) k_ hk_), (Kd.freshB (g := gb171) (o := .cells #[.slice Ao63 t168.length co63] 26 (0, 0)) (by (with_reducible repeat (first | refine blk_drewN ?_ _ | refine blk_drew ?_ | refine blk_alloc ?_ _)); exact BK171.out) k_ hk_)⟩)) (below_size (by repeat (first | (with_reducible first | exact HB.out | apply below_alloc | apply pw_below_drewN | apply below_drew1 | refine below_set ?_ GE163.out | refine below_set ?_ GE167.out | refine below_set ?_ GE171.out) | exact HB.out)))); have n10_ := Aside0.mk (blk_below (g := gb163) (o := .cells #[.slice Ao54 t160.length co54] 26 (0, 0)) (by (with_reducible repeat (first | refine blk_drewN ?_ _ | refine blk_drew ?_ | refine blk_alloc ?_ _)); exact BK163.out) hb); have n11_ := Aside0.mk (blk_below (g := gb167) (o := .cells #[.slice Ao58 t164.length co58] 26 (0, 0)) (by (with_reducible repeat (first | refine blk_drewN ?_ _ | refine blk_drew ?_ | refine blk_alloc ?_ _)); exact BK167.out) hb); have n12_ := Aside0.mk (blk_below (g := gb171) (o := .cells #[.slice Ao63 t168.length co63] 26 (0, 0)) (by (with_reducible repeat (first | refine blk_drewN ?_ _ | refine blk_drew ?_ | refine blk_alloc ?_ _)); exact BK171.out) hb); have n13_ := Aside0.mk (below_step (by repeat (first | (with_reducible first | exact HB.out | apply below_alloc | apply pw_below_drewN | apply below_drew1 | refine below_set ?_ GE163.out | refine below_set ?_ GE167.out | refine below_set ?_ GE171.out) | exact HB.out)) hb); clear HO162; clear HO166; clear HO170; clear HO190; clear BK163; clear BK167; clear BK171; clear HB; have HO162 := n0_; have HO166 := n1_; have HO170 := n2_; have HO193 := n9_; have BK163 := n10_; have BK167 := n11_; have BK171 := n12_; have HB := n13_; clear n0_ n1_ n2_ n9_ n10_ n11_ n12_ n13_; (try clear hb); (try clear hb2); (try clear hk); (try clear hi); (try clear ho0)
                  refine hK.out _ _ ⟨(blk_cell BK163.out 0).trans rfl, (blk_cell BK167.out 0).trans rfl⟩ (fun hHeld => ?_)
                  clear hK K
                  refine norm_ (a' := ?_) ?_ ?_
                  rotate_left
                  · show Act.put _ (some 59) _ = _
                    simp only [Act.put, List.setIfInBounds_toArray, List.set_cons_zero, List.set_cons_succ, i64_w, i32_w]
                    rfl
                  refine one_ (i := 7) (N := some 62) #[true, true, true, true, true, true, true, true, true, true, false, false, false, false] rfl rfl (one_of HT_.out (by kernel_rfl)) (by decide) (fun K hK => ?_)
                  refine goes_ Tryd.func11 (by kernel_rfl) rfl #[.agg #[.slice Ao54 t160.length co54], .int .i64 a3] (by rfl) rfl rfl (by (try simp only [List.map_toArray, List.map_cons, List.map_nil]); first | done | rfl | (simp only [List.length_drop, List.length_take]; rfl)) ?_
                  with_reducible refine (bitset_Set_Not.calls _ _ t160 a3 t194 _ ?side1 ?side2 A23.out).mono ?_
                  (case side1 => repeat (first | exact (Kd.V_reads' HO162.out).2.2 | (with_reducible refine Kd.C_alloc ?_ _) | (with_reducible refine Kd.C_drewN ?_ _) | (with_reducible refine Kd.C_drew ?_)))
                  (case side2 => exact (Kd.V_reads' HO162.out).2.1)
                  rintro e w84 ⟨v195, rfl, ho0, hb⟩
                  refine ⟨_, rfl, ?_⟩
                  have n0_ := Aside0.mk (Kd.V_below (by (with_reducible repeat (first | apply Kd.V_alloc | apply Kd.V_drewN | apply Kd.V_drew)); exact HO162.out) hb); have n1_ := Aside0.mk (Kd.V_below (by (with_reducible repeat (first | apply Kd.V_alloc | apply Kd.V_drewN | apply Kd.V_drew)); exact HO166.out) hb); have n2_ := Aside0.mk (Kd.V_below (by (with_reducible repeat (first | apply Kd.V_alloc | apply Kd.V_drewN | apply Kd.V_drew)); exact HO170.out) hb); have n9_ := Aside0.mk (Kd.V_below (by (with_reducible repeat (first | apply Kd.V_alloc | apply Kd.V_drewN | apply Kd.V_drew)); exact HO193.out) hb); have n10_ := Aside0.mk (Kd.V_lower (Kd.V_mono (ok' := fun k_ => k_ ≠ gb163 ∧ k_ ≠ gb167 ∧ k_ ≠ gb171) ho0 (fun k_ hk_ => ⟨(Kd.freshB (g := gb163) (o := .cells #[.slice Ao54 t160.length co54] 26 (0, 0)) (by (with_reducible repeat (first | refine blk_drewN ?_ _ | refine blk_drew ?_ | refine blk_alloc ?_ _)); exact BK163.out) k_ hk_), (Kd.freshB (g := gb167) (o := .cells #[.slice Ao58 t164.length co58] 26 (0, 0)) (by (with_reducible repeat (first | refine blk_drewN ?_ _ | refine blk_drew ?_ | refine blk_alloc ?_ _)); exact BK167.out) k_ hk_), (Kd.freshB (g := gb171) (o := .cells #[.slice Ao63 t168.length co63] 26 (0, 0)) (by (with_reducible repeat (first | refine blk_drewN ?_ _ | refine blk_drew ?_ | refine blk_alloc ?_ _)); exact BK171.out) k_ hk_)⟩)) (below_size (by repeat (first | (with_reducible first | exact HB.out | apply below_alloc | apply pw_below_drewN | apply below_drew1 | refine below_set ?_ GE163.out | refine below_set ?_ GE167.out | refine below_set ?_ GE171.out) | exact HB.out)))); have n11_ := Aside0.mk (blk_below (g := gb163) (o := .cells #[.slice Ao54 t160.length co54] 26 (0, 0)) (by (with_reducible repeat (first | refine blk_drewN ?_ _ | refine blk_drew ?_ | refine blk_alloc ?_ _)); exact BK163.out) hb); have n12_ := Aside0.mk (blk_below (g := gb167) (o := .cells #[.slice Ao58 t164.length co58] 26 (0, 0)) (by (with_reducible repeat (first | refine blk_drewN ?_ _ | refine blk_drew ?_ | refine blk_alloc ?_ _)); exact BK167.out) hb); have n13_ := Aside0.mk (blk_below (g := gb171) (o := .cells #[.slice Ao63 t168.length co63] 26 (0, 0)) (by (with_reducible repeat (first | refine blk_drewN ?_ _ | refine blk_drew ?_ | refine blk_alloc ?_ _)); exact BK171.out) hb); have n14_ := Aside0.mk (below_step (by repeat (first | (with_reducible first | exact HB.out | apply below_alloc | apply pw_below_drewN | apply below_drew1 | refine below_set ?_ GE163.out | refine below_set ?_ GE167.out | refine below_set ?_ GE171.out) | exact HB.out)) hb); clear HO162; clear HO166; clear HO170; clear HO193; clear BK163; clear BK167; clear BK171; clear HB; have HO162 := n0_; have HO166 := n1_; have HO170 := n2_; have HO193 := n9_; have HO196 := n10_; have BK163 := n11_; have BK167 := n12_; have BK171 := n13_; have HB := n14_; clear n0_ n1_ n2_ n9_ n10_ n11_ n12_ n13_ n14_; (try clear hb); (try clear hb2); (try clear hk); (try clear hi); (try clear ho0)
                  refine hK.out _ _ ⟨(blk_cell BK163.out 0).trans rfl, (blk_cell BK167.out 0).trans rfl⟩ (fun hHeld => ?_)
                  clear hK K
                  refine norm_ (a' := ?_) ?_ ?_
                  rotate_left
                  · show Act.put _ (some 62) _ = _
                    simp only [Act.put, List.setIfInBounds_toArray, List.set_cons_zero, List.set_cons_succ, i64_w, i32_w]
                    rfl
                  refine one_ (i := 10) (N := some 65) #[true, true, true, true, true, true, true, true, true, true, true, false, false, false] rfl rfl (one_of HT_.out (by kernel_rfl)) (by decide) (fun K hK => ?_)
                  refine goes_ Tryd.func11 (by kernel_rfl) rfl #[.agg #[.slice Ao58 t164.length co58], .int .i64 a3] (by rfl) rfl rfl (by (try simp only [List.map_toArray, List.map_cons, List.map_nil]); first | done | rfl | (simp only [List.length_drop, List.length_take]; rfl)) ?_
                  with_reducible refine (bitset_Set_Not.calls _ _ t164 a3 t197 _ ?side1 ?side2 A24.out).mono ?_
                  (case side1 => repeat (first | exact (Kd.V_reads' HO166.out).2.2 | (with_reducible refine Kd.C_alloc ?_ _) | (with_reducible refine Kd.C_drewN ?_ _) | (with_reducible refine Kd.C_drew ?_)))
                  (case side2 => exact (Kd.V_reads' HO166.out).2.1)
                  rintro e w85 ⟨v198, rfl, ho0, hb⟩
                  refine ⟨_, rfl, ?_⟩
                  have n0_ := Aside0.mk (Kd.V_below (by (with_reducible repeat (first | apply Kd.V_alloc | apply Kd.V_drewN | apply Kd.V_drew)); exact HO162.out) hb); have n1_ := Aside0.mk (Kd.V_below (by (with_reducible repeat (first | apply Kd.V_alloc | apply Kd.V_drewN | apply Kd.V_drew)); exact HO166.out) hb); have n2_ := Aside0.mk (Kd.V_below (by (with_reducible repeat (first | apply Kd.V_alloc | apply Kd.V_drewN | apply Kd.V_drew)); exact HO170.out) hb); have n9_ := Aside0.mk (Kd.V_below (by (with_reducible repeat (first | apply Kd.V_alloc | apply Kd.V_drewN | apply Kd.V_drew)); exact HO193.out) hb); have n10_ := Aside0.mk (Kd.V_below (by (with_reducible repeat (first | apply Kd.V_alloc | apply Kd.V_drewN | apply Kd.V_drew)); exact HO196.out) hb); have n11_ := Aside0.mk (Kd.V_lower (Kd.V_mono (ok' := fun k_ => k_ ≠ gb163 ∧ k_ ≠ gb167 ∧ k_ ≠ gb171) ho0 (fun k_ hk_ => ⟨(Kd.freshB (g := gb163) (o := .cells #[.slice Ao54 t160.length co54] 26 (0, 0)) (by (with_reducible repeat (first | refine blk_drewN ?_ _ | refine blk_drew ?_ | refine blk_alloc ?_ _)); exact BK163.out) k_ hk_), (Kd.freshB (g := gb167) (o := .cells #[.slice Ao58 t164.length co58] 26 (0, 0)) (by (with_reducible repeat (first | refine blk_drewN ?_ _ | refine blk_drew ?_ | refine blk_alloc ?_ _)); exact BK167.out) k_ hk_), (Kd.freshB (g := gb171) (o := .cells #[.slice Ao63 t168.length co63] 26 (0, 0)) (by (with_reducible repeat (first | refine blk_drewN ?_ _ | refine blk_drew ?_ | refine blk_alloc ?_ _)); exact BK171.out) k_ hk_)⟩)) (below_size (by repeat (first | (with_reducible first | exact HB.out | apply below_alloc | apply pw_below_drewN | apply below_drew1 | refine below_set ?_ GE163.out | refine below_set ?_ GE167.out | refine below_set ?_ GE171.out) | exact HB.out)))); have n12_ := Aside0.mk (blk_below (g := gb163) (o := .cells #[.slice Ao54 t160.length co54] 26 (0, 0)) (by (with_reducible repeat (first | refine blk_drewN ?_ _ | refine blk_drew ?_ | refine blk_alloc ?_ _)); exact BK163.out) hb); have n13_ := Aside0.mk (blk_below (g := gb167) (o := .cells #[.slice Ao58 t164.length co58] 26 (0, 0)) (by (with_reducible repeat (first | refine blk_drewN ?_ _ | refine blk_drew ?_ | refine blk_alloc ?_ _)); exact BK167.out) hb); have n14_ := Aside0.mk (blk_below (g := gb171) (o := .cells #[.slice Ao63 t168.length co63] 26 (0, 0)) (by (with_reducible repeat (first | refine blk_drewN ?_ _ | refine blk_drew ?_ | refine blk_alloc ?_ _)); exact BK171.out) hb); have n15_ := Aside0.mk (below_step (by repeat (first | (with_reducible first | exact HB.out | apply below_alloc | apply pw_below_drewN | apply below_drew1 | refine below_set ?_ GE163.out | refine below_set ?_ GE167.out | refine below_set ?_ GE171.out) | exact HB.out)) hb); clear HO162; clear HO166; clear HO170; clear HO193; clear HO196; clear BK163; clear BK167; clear BK171; clear HB; have HO162 := n0_; have HO166 := n1_; have HO170 := n2_; have HO193 := n9_; have HO196 := n10_; have HO199 := n11_; have BK163 := n12_; have BK167 := n13_
                  have BK171 := n14_; have HB := n15_; clear n0_ n1_ n2_ n9_ n10_ n11_ n12_ n13_ n14_ n15_; (try clear hb); (try clear hb2); (try clear hk); (try clear hi); (try clear ho0)
                  obtain ⟨Ao86, co86, eo86⟩ := Kd.V_slice HO196.out
                  (first | subst eo86 | (injection eo86 with f1_ f2_ f3_; have f4_ := f1_.symm; have f5_ := f3_.symm; clear f1_ f2_ f3_; subst f4_; subst f5_))
                  obtain ⟨Ao87, co87, eo87⟩ := Kd.V_slice HO199.out
                  (first | subst eo87 | (injection eo87 with f1_ f2_ f3_; have f4_ := f1_.symm; have f5_ := f3_.symm; clear f1_ f2_ f3_; subst f4_; subst f5_))
                  refine hK.out _ _ ⟨(blk_cell BK163.out 0).trans rfl, (blk_cell BK167.out 0).trans rfl⟩ (fun hHeld => ?_)
                  clear hK K
                  refine norm_ (a' := ?_) ?_ ?_
                  rotate_left
                  · show Act.put _ (some 65) _ = _
                    simp only [Act.put, List.setIfInBounds_toArray, List.set_cons_zero, List.set_cons_succ, i64_w, i32_w]
                    rfl
                  refine one_ (i := 11) (N := some 66) #[true, true, true, true, true, true, true, true, true, true, true, true, false, false] rfl rfl (one_of HT_.out (by kernel_rfl)) (by decide) (fun K hK => ?_)
                  refine goes_ Tryd.func10 (by kernel_rfl) rfl #[.agg #[.slice Ao86 t194.length co86], .agg #[.slice Ao87 t197.length co87]] (by rfl) rfl rfl (by (try simp only [List.map_toArray, List.map_cons, List.map_nil]); first | done | rfl | (simp only [List.length_drop, List.length_take]; rfl)) ?_
                  with_reducible refine (bitset_Set_And.calls _ _ t194 _ _ t197 t200 _ ?side1 ?side2 ?side3 ?side4 A25.out).mono ?_
                  (case side1 => repeat (first | exact (Kd.V_reads' HO196.out).2.2 | (with_reducible refine Kd.C_alloc ?_ _) | (with_reducible refine Kd.C_drewN ?_ _) | (with_reducible refine Kd.C_drew ?_)))
                  (case side2 => exact (Kd.V_reads' HO196.out).2.1)
                  (case side3 => repeat (first | exact (Kd.V_reads' HO199.out).2.2 | (with_reducible refine Kd.C_alloc ?_ _) | (with_reducible refine Kd.C_drewN ?_ _) | (with_reducible refine Kd.C_drew ?_)))
                  (case side4 => exact (Kd.V_reads' HO199.out).2.1)
                  rintro e w88 ⟨v201, rfl, ho0, hb⟩
                  refine ⟨_, rfl, ?_⟩
                  have n0_ := Aside0.mk (Kd.V_below (by (with_reducible repeat (first | apply Kd.V_alloc | apply Kd.V_drewN | apply Kd.V_drew)); exact HO162.out) hb); have n1_ := Aside0.mk (Kd.V_below (by (with_reducible repeat (first | apply Kd.V_alloc | apply Kd.V_drewN | apply Kd.V_drew)); exact HO166.out) hb); have n2_ := Aside0.mk (Kd.V_below (by (with_reducible repeat (first | apply Kd.V_alloc | apply Kd.V_drewN | apply Kd.V_drew)); exact HO170.out) hb); have n9_ := Aside0.mk (Kd.V_below (by (with_reducible repeat (first | apply Kd.V_alloc | apply Kd.V_drewN | apply Kd.V_drew)); exact HO193.out) hb); have n12_ := Aside0.mk (Kd.V_lower (Kd.V_mono (ok' := fun k_ => k_ ≠ gb163 ∧ k_ ≠ gb167 ∧ k_ ≠ gb171) ho0 (fun k_ hk_ => ⟨(Kd.freshB (g := gb163) (o := .cells #[.slice Ao54 t160.length co54] 26 (0, 0)) (by (with_reducible repeat (first | refine blk_drewN ?_ _ | refine blk_drew ?_ | refine blk_alloc ?_ _)); exact BK163.out) k_ hk_), (Kd.freshB (g := gb167) (o := .cells #[.slice Ao58 t164.length co58] 26 (0, 0)) (by (with_reducible repeat (first | refine blk_drewN ?_ _ | refine blk_drew ?_ | refine blk_alloc ?_ _)); exact BK167.out) k_ hk_), (Kd.freshB (g := gb171) (o := .cells #[.slice Ao63 t168.length co63] 26 (0, 0)) (by (with_reducible repeat (first | refine blk_drewN ?_ _ | refine blk_drew ?_ | refine blk_alloc ?_ _)); exact BK171.out) k_ hk_)⟩)) (below_size (by repeat (first | (with_reducible first | exact HB.out | apply below_alloc | apply pw_below_drewN | apply below_drew1 | refine below_set ?_ GE163.out | refine below_set ?_ GE167.out | refine below_set ?_ GE171.out) | exact HB.out)))); have n13_ := Aside0.mk (blk_below (g := gb163) (o := .cells #[.slice Ao54 t160.length co54] 26 (0, 0)) (by (with_reducible repeat (first | refine blk_drewN ?_ _ | refine blk_drew ?_ | refine blk_alloc ?_ _)); exact BK163.out) hb); have n14_ := Aside0.mk (blk_below (g := gb167) (o := .cells #[.slice Ao58 t164.length co58] 26 (0, 0)) (by (with_reducible repeat (first | refine blk_drewN ?_ _ | refine blk_drew ?_ | refine blk_alloc ?_ _)); exact BK167.out) hb); have n15_ := Aside0.mk (blk_below (g := gb171) (o := .cells #[.slice Ao63 t168.length co63] 26 (0, 0)) (by (with_reducible repeat (first | refine blk_drewN ?_ _ | refine blk_drew ?_ | refine blk_alloc ?_ _)); exact BK171.out) hb); have n16_ := Aside0.mk (below_step (by repeat (first | (with_reducible first | exact HB.out | apply below_alloc | apply pw_below_drewN | apply below_drew1 | refine below_set ?_ GE163.out | refine below_set ?_ GE167.out | refine below_set ?_ GE171.out) | exact HB.out)) hb); clear HO162; clear HO166; clear HO170; clear HO193; clear HO196; clear HO199; clear BK163; clear BK167; clear BK171; clear HB; have HO162 := n0_; have HO166 := n1_; have HO170 := n2_; have HO193 := n9_; have HO202 := n12_; have BK163 := n13_; have BK167 := n14_; have BK171 := n15_; have HB := n16_; clear n0_ n1_ n2_ n9_ n12_ n13_ n14_ n15_ n16_; (try clear hb); (try clear hb2); (try clear hk); (try clear hi)
                  (try clear ho0)
                  obtain ⟨Ao89, co89, eo89⟩ := Kd.V_slice HO193.out
                  (first | subst eo89 | (injection eo89 with f1_ f2_ f3_; have f4_ := f1_.symm; have f5_ := f3_.symm; clear f1_ f2_ f3_; subst f4_; subst f5_))
                  obtain ⟨Ao90, co90, eo90⟩ := Kd.V_slice HO202.out
                  (first | subst eo90 | (injection eo90 with f1_ f2_ f3_; have f4_ := f1_.symm; have f5_ := f3_.symm; clear f1_ f2_ f3_; subst f4_; subst f5_))
                  refine hK.out _ _ ⟨(blk_cell BK163.out 0).trans rfl, (blk_cell BK167.out 0).trans rfl⟩ (fun hHeld => ?_)
                  clear hK K
                  refine norm_ (a' := ?_) ?_ ?_
                  rotate_left
                  · show Act.put _ (some 66) _ = _
                    simp only [Act.put, List.setIfInBounds_toArray, List.set_cons_zero, List.set_cons_succ, i64_w, i32_w]
                    rfl
                  refine one_ (i := 12) (N := some 67) #[true, true, true, true, true, true, true, true, true, true, true, true, true, false] rfl rfl (one_of HT_.out (by kernel_rfl)) (by decide) (fun K hK => ?_)
                  refine goes_ Tryd.func9 (by kernel_rfl) rfl #[.agg #[.slice Ao89 t191.length co89], .agg #[.slice Ao90 t200.length co90]] (by rfl) rfl rfl (by (try simp only [List.map_toArray, List.map_cons, List.map_nil]); first | done | rfl | (simp only [List.length_drop, List.length_take]; rfl)) ?_
                  with_reducible refine (bitset_Same.calls kj5 _ _ t191 _ _ t200 true _ ?side1 ?side2 ?side3 ?side4 A26.out).mono ?_
                  (case side1 => repeat (first | exact (Kd.V_reads' HO193.out).2.2 | (with_reducible refine Kd.C_alloc ?_ _) | (with_reducible refine Kd.C_drewN ?_ _) | (with_reducible refine Kd.C_drew ?_)))
                  (case side2 => exact (Kd.V_reads' HO193.out).2.1)
                  (case side3 => repeat (first | exact (Kd.V_reads' HO202.out).2.2 | (with_reducible refine Kd.C_alloc ?_ _) | (with_reducible refine Kd.C_drewN ?_ _) | (with_reducible refine Kd.C_drew ?_)))
                  (case side4 => exact (Kd.V_reads' HO202.out).2.1)
                  rintro e w91 ⟨rfl, hb⟩
                  refine ⟨_, rfl, ?_⟩
                  have n0_ := Aside0.mk (Kd.V_below (by (with_reducible repeat (first | apply Kd.V_alloc | apply Kd.V_drewN | apply Kd.V_drew)); exact HO162.out) hb); have n1_ := Aside0.mk (Kd.V_below (by (with_reducible repeat (first | apply Kd.V_alloc | apply Kd.V_drewN | apply Kd.V_drew)); exact HO166.out) hb); have n2_ := Aside0.mk (Kd.V_below (by (with_reducible repeat (first | apply Kd.V_alloc | apply Kd.V_drewN | apply Kd.V_drew)); exact HO170.out) hb); have n13_ := Aside0.mk (blk_below (g := gb163) (o := .cells #[.slice Ao54 t160.length co54] 26 (0, 0)) (by (with_reducible repeat (first | refine blk_drewN ?_ _ | refine blk_drew ?_ | refine blk_alloc ?_ _)); exact BK163.out) hb); have n14_ := Aside0.mk (blk_below (g := gb167) (o := .cells #[.slice Ao58 t164.length co58] 26 (0, 0)) (by (with_reducible repeat (first | refine blk_drewN ?_ _ | refine blk_drew ?_ | refine blk_alloc ?_ _)); exact BK167.out) hb); have n15_ := Aside0.mk (blk_below (g := gb171) (o := .cells #[.slice Ao63 t168.length co63] 26 (0, 0)) (by (with_reducible repeat (first | refine blk_drewN ?_ _ | refine blk_drew ?_ | refine blk_alloc ?_ _)); exact BK171.out) hb); have n16_ := Aside0.mk (below_step (by repeat (first | (with_reducible first | exact HB.out | apply below_alloc | apply pw_below_drewN | apply below_drew1 | refine below_set ?_ GE163.out | refine below_set ?_ GE167.out | refine below_set ?_ GE171.out) | exact HB.out)) hb); clear HO162; clear HO166; clear HO170; clear HO193; clear HO202; clear BK163; clear BK167; clear BK171; clear HB; have HO162 := n0_; have HO166 := n1_; have HO170 := n2_; have BK163 := n13_; have BK167 := n14_; have BK171 := n15_; have HB := n16_; clear n0_ n1_ n2_ n13_ n14_ n15_ n16_; (try clear hb); (try clear hb2); (try clear hk); (try clear hi)
                  refine hK.out _ _ ⟨(blk_cell BK163.out 0).trans rfl, (blk_cell BK167.out 0).trans rfl⟩ (fun hHeld => ?_)
                  clear hK K
                  refine norm_ (a' := ?_) ?_ ?_
                  rotate_left
                  · show Act.put _ (some 67) _ = _
                    simp only [Act.put, List.setIfInBounds_toArray, List.set_cons_zero, List.set_cons_succ, i64_w, i32_w]
                    rfl
                  refine pure_ (i := 13) (N := some 14) (v := ?_) (a' := ?_) #[true, true, true, true, true, true, true, true, true, true, true, true, true, true] rfl rfl (any_of HT_.out (by kernel_rfl)) (fun _ _ _ h => h) (Or.inl ⟨by rfl, ?_⟩) ?_ ?_
                  rotate_left
                  · intro w'
                    go_simp
                    with_reducible rfl
                  rotate_left
                  · simp only [Act.put, List.setIfInBounds_toArray, List.set_cons_zero, List.set_cons_succ, i64_w, i32_w]
                    rfl
                  refine done_ (done_of HT_.out (by kernel_rfl)) ?_
                  try go_wp2
                  have n0_ := Aside0.mk (Kd.V_drew HO162.out); have n1_ := Aside0.mk (Kd.V_drew HO166.out); have n2_ := Aside0.mk (Kd.V_drew HO170.out); have n13_ := Aside0.mk (blk_drew BK163.out); have n14_ := Aside0.mk (blk_drew BK167.out); have n15_ := Aside0.mk (blk_drew BK171.out); have n16_ := Aside0.mk (below_drew1 HB.out); clear HO162; clear HO166; clear HO170; clear BK163; clear BK167; clear BK171; clear HB; have HO162 := n0_; have HO166 := n1_; have HO170 := n2_; have BK163 := n13_; have BK167 := n14_; have BK171 := n15_; have HB := n16_; clear n0_ n1_ n2_ n13_ n14_ n15_ n16_
                  refine start_ (n := 14) (S := fun w' => w'.cell? ⟨gb163, 0, none⟩ = some (.slice Ao54 t160.length co54) ∧ w'.cell? ⟨gb167, 0, none⟩ = some (.slice Ao58 t164.length co58) ∧ w'.cell? ⟨gb171, 0, none⟩ = some (.slice Ao63 t168.length co63)) (ds := []) #[false, false, false, false, false, false, false, false, false, false, false, false, false, false] (by kernel_rfl) rfl rfl ⟨(blk_cell BK163.out 0).trans rfl, (blk_cell BK167.out 0).trans rfl, (blk_cell BK171.out 0).trans rfl⟩ (fun hHeld => ?_); refine with_tabW winnowerlaw09_BitsetLaws.tab9 winnowerlaw09_BitsetLaws.bits9 (fun HT_ HW_ => ?_)
                  generalize w91.drew = w92 at HO162 HO166 HO170 BK163 BK167 BK171 HB hHeld ⊢
                  refine take_ (i := 0) (N := some 68) (v := ?_) (a' := ?_) #[true, false, false, false, false, false, false, false, false, false, false, false, false, false] rfl rfl (take_ofW HT_.out HW_.out (by kernel_rfl)) (fun _ _ _ h => h) (Or.inl ⟨by rfl, ?_⟩) hHeld ?_ ?_
                  rotate_left
                  · rintro w' ⟨s0, s1, s2⟩
                    go_simp
                    with_reducible rfl
                  rotate_left
                  · simp only [Act.put, List.setIfInBounds_toArray, List.set_cons_zero, List.set_cons_succ, i64_w, i32_w]
                    rfl
                  refine take_ (i := 1) (N := some 69) (v := ?_) (a' := ?_) #[true, true, false, false, false, false, false, false, false, false, false, false, false, false] rfl rfl (take_ofW HT_.out HW_.out (by kernel_rfl)) (fun _ _ _ h => h) (Or.inl ⟨by rfl, ?_⟩) hHeld ?_ ?_
                  rotate_left
                  · rintro w' ⟨s0, s1, s2⟩
                    go_simp
                    with_reducible rfl
                  rotate_left
                  · simp only [Act.put, List.setIfInBounds_toArray, List.set_cons_zero, List.set_cons_succ, i64_w, i32_w]
                    rfl
                  refine take_ (i := 2) (N := some 70) (v := ?_) (a' := ?_) #[true, true, true, false, false, false, false, false, false, false, false, false, false, false] rfl rfl (take_ofW HT_.out HW_.out (by kernel_rfl)) (fun _ _ _ h => h) (Or.inl ⟨by rfl, ?_⟩) hHeld ?_ ?_
                  rotate_left
                  · rintro w' ⟨s0, s1, s2⟩
                    go_simp
                    with_reducible rfl
                  rotate_left
                  · simp only [Act.put, List.setIfInBounds_toArray, List.set_cons_zero, List.set_cons_succ, i64_w, i32_w]
                    rfl
                  refine take_ (i := 5) (N := some 73) (v := ?_) (a' := ?_) #[true, true, true, false, false, true, false, false, false, false, false, false, false, false] rfl rfl (take_ofW HT_.out HW_.out (by kernel_rfl)) (fun _ _ _ h => h) (Or.inl ⟨by rfl, ?_⟩) hHeld ?_ ?_
                  rotate_left
                  · rintro w' ⟨s0, s1, s2⟩
                    go_simp
                    with_reducible rfl
                  rotate_left
                  · simp only [Act.put, List.setIfInBounds_toArray, List.set_cons_zero, List.set_cons_succ, i64_w, i32_w]
                    rfl
                  refine take_ (i := 6) (N := some 74) (v := ?_) (a' := ?_) #[true, true, true, false, false, true, true, false, false, false, false, false, false, false] rfl rfl (take_ofW HT_.out HW_.out (by kernel_rfl)) (fun _ _ _ h => h) (Or.inl ⟨by rfl, ?_⟩) hHeld ?_ ?_
                  rotate_left
                  · rintro w' ⟨s0, s1, s2⟩
                    go_simp
                    with_reducible rfl
                  rotate_left
                  · simp only [Act.put, List.setIfInBounds_toArray, List.set_cons_zero, List.set_cons_succ, i64_w, i32_w]
                    rfl
                  refine take_ (i := 8) (N := some 76) (v := ?_) (a' := ?_) #[true, true, true, false, false, true, true, false, true, false, false, false, false, false] rfl rfl (take_ofW HT_.out HW_.out (by kernel_rfl)) (fun _ _ _ h => h) (Or.inl ⟨by rfl, ?_⟩) hHeld ?_ ?_
                  rotate_left
                  · rintro w' ⟨s0, s1, s2⟩
                    go_simp
                    with_reducible rfl
                  rotate_left
                  · simp only [Act.put, List.setIfInBounds_toArray, List.set_cons_zero, List.set_cons_succ, i64_w, i32_w]
                    rfl
                  refine take_ (i := 9) (N := some 77) (v := ?_) (a' := ?_) #[true, true, true, false, false, true, true, false, true, true, false, false, false, false] rfl rfl (take_ofW HT_.out HW_.out (by kernel_rfl)) (fun _ _ _ h => h) (Or.inl ⟨by rfl, ?_⟩) hHeld ?_ ?_
                  rotate_left
                  · rintro w' ⟨s0, s1, s2⟩
                    go_simp
                    with_reducible rfl
                  rotate_left
                  · simp only [Act.put, List.setIfInBounds_toArray, List.set_cons_zero, List.set_cons_succ, i64_w, i32_w]
                    rfl
                  refine one_ (i := 3) (N := some 71) #[true, true, true, true, false, true, true, false, true, true, false, false, false, false] rfl rfl (one_of HT_.out (by kernel_rfl)) (by decide) (fun K hK => ?_)
                  refine goes_ Tryd.func12 (by kernel_rfl) rfl #[.agg #[.slice Ao58 t164.length co58], .agg #[.slice Ao63 t168.length co63]] (by rfl) rfl rfl (by (try simp only [List.map_toArray, List.map_cons, List.map_nil]); first | done | rfl | (simp only [List.length_drop, List.length_take]; rfl)) ?_
                  with_reducible refine (bitset_Set_Or.calls _ _ t164 _ _ t168 t204 _ ?side1 ?side2 ?side3 ?side4 A27.out).mono ?_
                  (case side1 => repeat (first | exact (Kd.V_reads' HO166.out).2.2 | (with_reducible refine Kd.C_alloc ?_ _) | (with_reducible refine Kd.C_drewN ?_ _) | (with_reducible refine Kd.C_drew ?_)))
                  (case side2 => exact (Kd.V_reads' HO166.out).2.1)
                  (case side3 => repeat (first | exact (Kd.V_reads' HO170.out).2.2 | (with_reducible refine Kd.C_alloc ?_ _) | (with_reducible refine Kd.C_drewN ?_ _) | (with_reducible refine Kd.C_drew ?_)))
                  (case side4 => exact (Kd.V_reads' HO170.out).2.1)
                  rintro e w93 ⟨v205, rfl, ho0, hb⟩
                  refine ⟨_, rfl, ?_⟩
                  have n0_ := Aside0.mk (Kd.V_below (by (with_reducible repeat (first | apply Kd.V_alloc | apply Kd.V_drewN | apply Kd.V_drew)); exact HO162.out) hb); have n1_ := Aside0.mk (Kd.V_below (by (with_reducible repeat (first | apply Kd.V_alloc | apply Kd.V_drewN | apply Kd.V_drew)); exact HO166.out) hb); have n2_ := Aside0.mk (Kd.V_below (by (with_reducible repeat (first | apply Kd.V_alloc | apply Kd.V_drewN | apply Kd.V_drew)); exact HO170.out) hb); have n13_ := Aside0.mk (Kd.V_lower (Kd.V_mono (ok' := fun k_ => k_ ≠ gb163 ∧ k_ ≠ gb167 ∧ k_ ≠ gb171) ho0 (fun k_ hk_ => ⟨(Kd.freshB (g := gb163) (o := .cells #[.slice Ao54 t160.length co54] 26 (0, 0)) (by (with_reducible repeat (first | refine blk_drewN ?_ _ | refine blk_drew ?_ | refine blk_alloc ?_ _)); exact BK163.out) k_ hk_), (Kd.freshB (g := gb167) (o := .cells #[.slice Ao58 t164.length co58] 26 (0, 0)) (by (with_reducible repeat (first | refine blk_drewN ?_ _ | refine blk_drew ?_ | refine blk_alloc ?_ _)); exact BK167.out) k_ hk_), (Kd.freshB (g := gb171) (o := .cells #[.slice Ao63 t168.length co63] 26 (0, 0)) (by (with_reducible repeat (first | refine blk_drewN ?_ _ | refine blk_drew ?_ | refine blk_alloc ?_ _)); exact BK171.out) k_ hk_)⟩)) (below_size (by repeat (first | (with_reducible first | exact HB.out | apply below_alloc | apply pw_below_drewN | apply below_drew1 | refine below_set ?_ GE163.out | refine below_set ?_ GE167.out | refine below_set ?_ GE171.out) | exact HB.out)))); have n14_ := Aside0.mk (blk_below (g := gb163) (o := .cells #[.slice Ao54 t160.length co54] 26 (0, 0)) (by (with_reducible repeat (first | refine blk_drewN ?_ _ | refine blk_drew ?_ | refine blk_alloc ?_ _)); exact BK163.out) hb); have n15_ := Aside0.mk (blk_below (g := gb167) (o := .cells #[.slice Ao58 t164.length co58] 26 (0, 0)) (by (with_reducible repeat (first | refine blk_drewN ?_ _ | refine blk_drew ?_ | refine blk_alloc ?_ _)); exact BK167.out) hb); have n16_ := Aside0.mk (blk_below (g := gb171) (o := .cells #[.slice Ao63 t168.length co63] 26 (0, 0)) (by (with_reducible repeat (first | refine blk_drewN ?_ _ | refine blk_drew ?_ | refine blk_alloc ?_ _)); exact BK171.out) hb); have n17_ := Aside0.mk (below_step (by repeat (first | (with_reducible first | exact HB.out | apply below_alloc | apply pw_below_drewN | apply below_drew1 | refine below_set ?_ GE163.out | refine below_set ?_ GE167.out | refine below_set ?_ GE171.out) | exact HB.out)) hb); clear HO162; clear HO166; clear HO170; clear BK163; clear BK167; clear BK171; clear HB; have HO162 := n0_; have HO166 := n1_; have HO170 := n2_; have HO206 := n13_; have BK163 := n14_; have BK167 := n15_; have BK171 := n16_; have HB := n17_; clear n0_ n1_ n2_ n13_ n14_ n15_ n16_ n17_; (try clear hb); (try clear hb2); (try clear hk); (try clear hi); (try clear ho0)
                  obtain ⟨Ao94, co94, eo94⟩ := Kd.V_slice HO206.out
                  (first | subst eo94 | (injection eo94 with f1_ f2_ f3_; have f4_ := f1_.symm; have f5_ := f3_.symm; clear f1_ f2_ f3_; subst f4_; subst f5_))
                  refine hK.out _ _ ⟨(blk_cell BK163.out 0).trans rfl, (blk_cell BK167.out 0).trans rfl, (blk_cell BK171.out 0).trans rfl⟩ (fun hHeld => ?_)
                  clear hK K
                  refine norm_ (a' := ?_) ?_ ?_
                  rotate_left
                  · show Act.put _ (some 71) _ = _
                    simp only [Act.put, List.setIfInBounds_toArray, List.set_cons_zero, List.set_cons_succ, i64_w, i32_w]
                    rfl
                  refine one_ (i := 4) (N := some 72) #[true, true, true, true, true, true, true, false, true, true, false, false, false, false] rfl rfl (one_of HT_.out (by kernel_rfl)) (by decide) (fun K hK => ?_)
                  refine goes_ Tryd.func10 (by kernel_rfl) rfl #[.agg #[.slice Ao54 t160.length co54], .agg #[.slice Ao94 t204.length co94]] (by rfl) rfl rfl (by (try simp only [List.map_toArray, List.map_cons, List.map_nil]); first | done | rfl | (simp only [List.length_drop, List.length_take]; rfl)) ?_
                  with_reducible refine (bitset_Set_And.calls _ _ t160 _ _ t204 t207 _ ?side1 ?side2 ?side3 ?side4 A28.out).mono ?_
                  (case side1 => repeat (first | exact (Kd.V_reads' HO162.out).2.2 | (with_reducible refine Kd.C_alloc ?_ _) | (with_reducible refine Kd.C_drewN ?_ _) | (with_reducible refine Kd.C_drew ?_)))
                  (case side2 => exact (Kd.V_reads' HO162.out).2.1)
                  (case side3 => repeat (first | exact (Kd.V_reads' HO206.out).2.2 | (with_reducible refine Kd.C_alloc ?_ _) | (with_reducible refine Kd.C_drewN ?_ _) | (with_reducible refine Kd.C_drew ?_)))
                  (case side4 => exact (Kd.V_reads' HO206.out).2.1)
                  rintro e w95 ⟨v208, rfl, ho0, hb⟩
                  refine ⟨_, rfl, ?_⟩
                  have n0_ := Aside0.mk (Kd.V_below (by (with_reducible repeat (first | apply Kd.V_alloc | apply Kd.V_drewN | apply Kd.V_drew)); exact HO162.out) hb); have n1_ := Aside0.mk (Kd.V_below (by (with_reducible repeat (first | apply Kd.V_alloc | apply Kd.V_drewN | apply Kd.V_drew)); exact HO166.out) hb); have n2_ := Aside0.mk (Kd.V_below (by (with_reducible repeat (first | apply Kd.V_alloc | apply Kd.V_drewN | apply Kd.V_drew)); exact HO170.out) hb); have n14_ := Aside0.mk (Kd.V_lower (Kd.V_mono (ok' := fun k_ => k_ ≠ gb163 ∧ k_ ≠ gb167 ∧ k_ ≠ gb171) ho0 (fun k_ hk_ => ⟨(Kd.freshB (g := gb163) (o := .cells #[.slice Ao54 t160.length co54] 26 (0, 0)) (by (with_reducible repeat (first | refine blk_drewN ?_ _ | refine blk_drew ?_ | refine blk_alloc ?_ _)); exact BK163.out) k_ hk_), (Kd.freshB (g := gb167) (o := .cells #[.slice Ao58 t164.length co58] 26 (0, 0)) (by (with_reducible repeat (first | refine blk_drewN ?_ _ | refine blk_drew ?_ | refine blk_alloc ?_ _)); exact BK167.out) k_ hk_), (Kd.freshB (g := gb171) (o := .cells #[.slice Ao63 t168.length co63] 26 (0, 0)) (by (with_reducible repeat (first | refine blk_drewN ?_ _ | refine blk_drew ?_ | refine blk_alloc ?_ _)); exact BK171.out) k_ hk_)⟩)) (below_size (by repeat (first | (with_reducible first | exact HB.out | apply below_alloc | apply pw_below_drewN | apply below_drew1 | refine below_set ?_ GE163.out | refine below_set ?_ GE167.out | refine below_set ?_ GE171.out) | exact HB.out)))); have n15_ := Aside0.mk (blk_below (g := gb163) (o := .cells #[.slice Ao54 t160.length co54] 26 (0, 0)) (by (with_reducible repeat (first | refine blk_drewN ?_ _ | refine blk_drew ?_ | refine blk_alloc ?_ _)); exact BK163.out) hb); have n16_ := Aside0.mk (blk_below (g := gb167) (o := .cells #[.slice Ao58 t164.length co58] 26 (0, 0)) (by (with_reducible repeat (first | refine blk_drewN ?_ _ | refine blk_drew ?_ | refine blk_alloc ?_ _)); exact BK167.out) hb); have n17_ := Aside0.mk (blk_below (g := gb171) (o := .cells #[.slice Ao63 t168.length co63] 26 (0, 0)) (by (with_reducible repeat (first | refine blk_drewN ?_ _ | refine blk_drew ?_ | refine blk_alloc ?_ _)); exact BK171.out) hb); have n18_ := Aside0.mk (below_step (by repeat (first | (with_reducible first | exact HB.out | apply below_alloc | apply pw_below_drewN | apply below_drew1 | refine below_set ?_ GE163.out | refine below_set ?_ GE167.out | refine below_set ?_ GE171.out) | exact HB.out)) hb); clear HO162; clear HO166; clear HO170; clear HO206; clear BK163; clear BK167; clear BK171; clear HB; have HO162 := n0_; have HO166 := n1_; have HO170 := n2_; have HO209 := n14_; have BK163 := n15_; have BK167 := n16_; have BK171 := n17_; have HB := n18_; clear n0_ n1_ n2_ n14_ n15_ n16_ n17_ n18_; (try clear hb); (try clear hb2); (try clear hk); (try clear hi); (try clear ho0)
                  refine hK.out _ _ ⟨(blk_cell BK163.out 0).trans rfl, (blk_cell BK167.out 0).trans rfl, (blk_cell BK171.out 0).trans rfl⟩ (fun hHeld => ?_)
                  clear hK K
                  refine norm_ (a' := ?_) ?_ ?_
                  rotate_left
                  · show Act.put _ (some 72) _ = _
                    simp only [Act.put, List.setIfInBounds_toArray, List.set_cons_zero, List.set_cons_succ, i64_w, i32_w]
                    rfl
                  refine one_ (i := 7) (N := some 75) #[true, true, true, true, true, true, true, true, true, true, false, false, false, false] rfl rfl (one_of HT_.out (by kernel_rfl)) (by decide) (fun K hK => ?_)
                  refine goes_ Tryd.func10 (by kernel_rfl) rfl #[.agg #[.slice Ao54 t160.length co54], .agg #[.slice Ao58 t164.length co58]] (by rfl) rfl rfl (by (try simp only [List.map_toArray, List.map_cons, List.map_nil]); first | done | rfl | (simp only [List.length_drop, List.length_take]; rfl)) ?_
                  with_reducible refine (bitset_Set_And.calls _ _ t160 _ _ t164 t210 _ ?side1 ?side2 ?side3 ?side4 A29.out).mono ?_
                  (case side1 => repeat (first | exact (Kd.V_reads' HO162.out).2.2 | (with_reducible refine Kd.C_alloc ?_ _) | (with_reducible refine Kd.C_drewN ?_ _) | (with_reducible refine Kd.C_drew ?_)))
                  (case side2 => exact (Kd.V_reads' HO162.out).2.1)
                  (case side3 => repeat (first | exact (Kd.V_reads' HO166.out).2.2 | (with_reducible refine Kd.C_alloc ?_ _) | (with_reducible refine Kd.C_drewN ?_ _) | (with_reducible refine Kd.C_drew ?_)))
                  (case side4 => exact (Kd.V_reads' HO166.out).2.1)
                  rintro e w96 ⟨v211, rfl, ho0, hb⟩
                  refine ⟨_, rfl, ?_⟩
                  have n0_ := Aside0.mk (Kd.V_below (by (with_reducible repeat (first | apply Kd.V_alloc | apply Kd.V_drewN | apply Kd.V_drew)); exact HO162.out) hb); have n1_ := Aside0.mk (Kd.V_below (by (with_reducible repeat (first | apply Kd.V_alloc | apply Kd.V_drewN | apply Kd.V_drew)); exact HO166.out) hb); have n2_ := Aside0.mk (Kd.V_below (by (with_reducible repeat (first | apply Kd.V_alloc | apply Kd.V_drewN | apply Kd.V_drew)); exact HO170.out) hb); have n14_ := Aside0.mk (Kd.V_below (by (with_reducible repeat (first | apply Kd.V_alloc | apply Kd.V_drewN | apply Kd.V_drew)); exact HO209.out) hb); have n15_ := Aside0.mk (Kd.V_lower (Kd.V_mono (ok' := fun k_ => k_ ≠ gb163 ∧ k_ ≠ gb167 ∧ k_ ≠ gb171) ho0 (fun k_ hk_ => ⟨(Kd.freshB (g := gb163) (o := .cells #[.slice Ao54 t160.length co54] 26 (0, 0)) (by (with_reducible repeat (first | refine blk_drewN ?_ _ | refine blk_drew ?_ | refine blk_alloc ?_ _)); exact BK163.out) k_ hk_), (Kd.freshB (g := gb167) (o := .cells #[.slice Ao58 t164.length co58] 26 (0, 0)) (by (with_reducible repeat (first | refine blk_drewN ?_ _ | refine blk_drew ?_ | refine blk_alloc ?_ _)); exact BK167.out) k_ hk_), (Kd.freshB (g := gb171) (o := .cells #[.slice Ao63 t168.length co63] 26 (0, 0)) (by (with_reducible repeat (first | refine blk_drewN ?_ _ | refine blk_drew ?_ | refine blk_alloc ?_ _)); exact BK171.out) k_ hk_)⟩)) (below_size (by repeat (first | (with_reducible first | exact HB.out | apply below_alloc | apply pw_below_drewN | apply below_drew1 | refine below_set ?_ GE163.out | refine below_set ?_ GE167.out | refine below_set ?_ GE171.out) | exact HB.out)))); have n16_ := Aside0.mk (blk_below (g := gb163) (o := .cells #[.slice Ao54 t160.length co54] 26 (0, 0)) (by (with_reducible repeat (first | refine blk_drewN ?_ _ | refine blk_drew ?_ | refine blk_alloc ?_ _)); exact BK163.out) hb); have n17_ := Aside0.mk (blk_below (g := gb167) (o := .cells #[.slice Ao58 t164.length co58] 26 (0, 0)) (by (with_reducible repeat (first | refine blk_drewN ?_ _ | refine blk_drew ?_ | refine blk_alloc ?_ _)); exact BK167.out) hb); have n18_ := Aside0.mk (blk_below (g := gb171) (o := .cells #[.slice Ao63 t168.length co63] 26 (0, 0)) (by (with_reducible repeat (first | refine blk_drewN ?_ _ | refine blk_drew ?_ | refine blk_alloc ?_ _)); exact BK171.out) hb); have n19_ := Aside0.mk (below_step (by repeat (first | (with_reducible first | exact HB.out | apply below_alloc | apply pw_below_drewN | apply below_drew1 | refine below_set ?_ GE163.out | refine below_set ?_ GE167.out | refine below_set ?_ GE171.out) | exact HB.out)) hb); clear HO162; clear HO166; clear HO170; clear HO209; clear BK163; clear BK167; clear BK171; clear HB; have HO162 := n0_; have HO166 := n1_; have HO170 := n2_; have HO209 := n14_; have HO212 := n15_; have BK163 := n16_; have BK167 := n17_; have BK171 := n18_; have HB := n19_; clear n0_ n1_ n2_ n14_ n15_ n16_ n17_ n18_ n19_; (try clear hb); (try clear hb2); (try clear hk); (try clear hi); (try clear ho0)
                  refine hK.out _ _ ⟨(blk_cell BK163.out 0).trans rfl, (blk_cell BK167.out 0).trans rfl, (blk_cell BK171.out 0).trans rfl⟩ (fun hHeld => ?_)
                  clear hK K
                  refine norm_ (a' := ?_) ?_ ?_
                  rotate_left
                  · show Act.put _ (some 75) _ = _
                    simp only [Act.put, List.setIfInBounds_toArray, List.set_cons_zero, List.set_cons_succ, i64_w, i32_w]
                    rfl
                  refine one_ (i := 10) (N := some 78) #[true, true, true, true, true, true, true, true, true, true, true, false, false, false] rfl rfl (one_of HT_.out (by kernel_rfl)) (by decide) (fun K hK => ?_)
                  refine goes_ Tryd.func10 (by kernel_rfl) rfl #[.agg #[.slice Ao54 t160.length co54], .agg #[.slice Ao63 t168.length co63]] (by rfl) rfl rfl (by (try simp only [List.map_toArray, List.map_cons, List.map_nil]); first | done | rfl | (simp only [List.length_drop, List.length_take]; rfl)) ?_
                  with_reducible refine (bitset_Set_And.calls _ _ t160 _ _ t168 t213 _ ?side1 ?side2 ?side3 ?side4 A30.out).mono ?_
                  (case side1 => repeat (first | exact (Kd.V_reads' HO162.out).2.2 | (with_reducible refine Kd.C_alloc ?_ _) | (with_reducible refine Kd.C_drewN ?_ _) | (with_reducible refine Kd.C_drew ?_)))
                  (case side2 => exact (Kd.V_reads' HO162.out).2.1)
                  (case side3 => repeat (first | exact (Kd.V_reads' HO170.out).2.2 | (with_reducible refine Kd.C_alloc ?_ _) | (with_reducible refine Kd.C_drewN ?_ _) | (with_reducible refine Kd.C_drew ?_)))
                  (case side4 => exact (Kd.V_reads' HO170.out).2.1)
                  rintro e w97 ⟨v214, rfl, ho0, hb⟩
                  refine ⟨_, rfl, ?_⟩
                  have n0_ := Aside0.mk (Kd.V_below (by (with_reducible repeat (first | apply Kd.V_alloc | apply Kd.V_drewN | apply Kd.V_drew)); exact HO162.out) hb); have n1_ := Aside0.mk (Kd.V_below (by (with_reducible repeat (first | apply Kd.V_alloc | apply Kd.V_drewN | apply Kd.V_drew)); exact HO166.out) hb); have n14_ := Aside0.mk (Kd.V_below (by (with_reducible repeat (first | apply Kd.V_alloc | apply Kd.V_drewN | apply Kd.V_drew)); exact HO209.out) hb); have n15_ := Aside0.mk (Kd.V_below (by (with_reducible repeat (first | apply Kd.V_alloc | apply Kd.V_drewN | apply Kd.V_drew)); exact HO212.out) hb); have n16_ := Aside0.mk (Kd.V_lower (Kd.V_mono (ok' := fun k_ => k_ ≠ gb163 ∧ k_ ≠ gb167 ∧ k_ ≠ gb171) ho0 (fun k_ hk_ => ⟨(Kd.freshB (g := gb163) (o := .cells #[.slice Ao54 t160.length co54] 26 (0, 0)) (by (with_reducible repeat (first | refine blk_drewN ?_ _ | refine blk_drew ?_ | refine blk_alloc ?_ _)); exact BK163.out) k_ hk_), (Kd.freshB (g := gb167) (o := .cells #[.slice Ao58 t164.length co58] 26 (0, 0)) (by (with_reducible repeat (first | refine blk_drewN ?_ _ | refine blk_drew ?_ | refine blk_alloc ?_ _)); exact BK167.out) k_ hk_), (Kd.freshB (g := gb171) (o := .cells #[.slice Ao63 t168.length co63] 26 (0, 0)) (by (with_reducible repeat (first | refine blk_drewN ?_ _ | refine blk_drew ?_ | refine blk_alloc ?_ _)); exact BK171.out) k_ hk_)⟩)) (below_size (by repeat (first | (with_reducible first | exact HB.out | apply below_alloc | apply pw_below_drewN | apply below_drew1 | refine below_set ?_ GE163.out | refine below_set ?_ GE167.out | refine below_set ?_ GE171.out) | exact HB.out)))); have n17_ := Aside0.mk (blk_below (g := gb163) (o := .cells #[.slice Ao54 t160.length co54] 26 (0, 0)) (by (with_reducible repeat (first | refine blk_drewN ?_ _ | refine blk_drew ?_ | refine blk_alloc ?_ _)); exact BK163.out) hb); have n18_ := Aside0.mk (blk_below (g := gb167) (o := .cells #[.slice Ao58 t164.length co58] 26 (0, 0)) (by (with_reducible repeat (first | refine blk_drewN ?_ _ | refine blk_drew ?_ | refine blk_alloc ?_ _)); exact BK167.out) hb); have n19_ := Aside0.mk (blk_below (g := gb171) (o := .cells #[.slice Ao63 t168.length co63] 26 (0, 0)) (by (with_reducible repeat (first | refine blk_drewN ?_ _ | refine blk_drew ?_ | refine blk_alloc ?_ _)); exact BK171.out) hb); have n20_ := Aside0.mk (below_step (by repeat (first | (with_reducible first | exact HB.out | apply below_alloc | apply pw_below_drewN | apply below_drew1 | refine below_set ?_ GE163.out | refine below_set ?_ GE167.out | refine below_set ?_ GE171.out) | exact HB.out)) hb); clear HO162; clear HO166; clear HO170; clear HO209; clear HO212; clear BK163; clear BK167; clear BK171; clear HB; have HO162 := n0_; have HO166 := n1_; have HO209 := n14_; have HO212 := n15_; have HO215 := n16_; have BK163 := n17_; have BK167 := n18_; have BK171 := n19_; have HB := n20_; clear n0_ n1_ n14_ n15_ n16_ n17_ n18_ n19_ n20_; (try clear hb); (try clear hb2); (try clear hk); (try clear hi); (try clear ho0)
                  obtain ⟨Ao98, co98, eo98⟩ := Kd.V_slice HO212.out
                  (first | subst eo98 | (injection eo98 with f1_ f2_ f3_; have f4_ := f1_.symm; have f5_ := f3_.symm; clear f1_ f2_ f3_; subst f4_; subst f5_))
                  obtain ⟨Ao99, co99, eo99⟩ := Kd.V_slice HO215.out
                  (first | subst eo99 | (injection eo99 with f1_ f2_ f3_; have f4_ := f1_.symm; have f5_ := f3_.symm; clear f1_ f2_ f3_; subst f4_; subst f5_))
                  refine hK.out _ _ ⟨(blk_cell BK163.out 0).trans rfl, (blk_cell BK167.out 0).trans rfl, (blk_cell BK171.out 0).trans rfl⟩ (fun hHeld => ?_)
                  clear hK K
                  refine norm_ (a' := ?_) ?_ ?_
                  rotate_left
                  · show Act.put _ (some 78) _ = _
                    simp only [Act.put, List.setIfInBounds_toArray, List.set_cons_zero, List.set_cons_succ, i64_w, i32_w]
                    rfl
                  refine one_ (i := 11) (N := some 79) #[true, true, true, true, true, true, true, true, true, true, true, true, false, false] rfl rfl (one_of HT_.out (by kernel_rfl)) (by decide) (fun K hK => ?_)
                  refine goes_ Tryd.func12 (by kernel_rfl) rfl #[.agg #[.slice Ao98 t210.length co98], .agg #[.slice Ao99 t213.length co99]] (by rfl) rfl rfl (by (try simp only [List.map_toArray, List.map_cons, List.map_nil]); first | done | rfl | (simp only [List.length_drop, List.length_take]; rfl)) ?_
                  with_reducible refine (bitset_Set_Or.calls _ _ t210 _ _ t213 t216 _ ?side1 ?side2 ?side3 ?side4 A31.out).mono ?_
                  (case side1 => repeat (first | exact (Kd.V_reads' HO212.out).2.2 | (with_reducible refine Kd.C_alloc ?_ _) | (with_reducible refine Kd.C_drewN ?_ _) | (with_reducible refine Kd.C_drew ?_)))
                  (case side2 => exact (Kd.V_reads' HO212.out).2.1)
                  (case side3 => repeat (first | exact (Kd.V_reads' HO215.out).2.2 | (with_reducible refine Kd.C_alloc ?_ _) | (with_reducible refine Kd.C_drewN ?_ _) | (with_reducible refine Kd.C_drew ?_)))
                  (case side4 => exact (Kd.V_reads' HO215.out).2.1)
                  rintro e w100 ⟨v217, rfl, ho0, hb⟩
                  refine ⟨_, rfl, ?_⟩
                  have n0_ := Aside0.mk (Kd.V_below (by (with_reducible repeat (first | apply Kd.V_alloc | apply Kd.V_drewN | apply Kd.V_drew)); exact HO162.out) hb); have n1_ := Aside0.mk (Kd.V_below (by (with_reducible repeat (first | apply Kd.V_alloc | apply Kd.V_drewN | apply Kd.V_drew)); exact HO166.out) hb); have n14_ := Aside0.mk (Kd.V_below (by (with_reducible repeat (first | apply Kd.V_alloc | apply Kd.V_drewN | apply Kd.V_drew)); exact HO209.out) hb); have n17_ := Aside0.mk (Kd.V_lower (Kd.V_mono (ok' := fun k_ => k_ ≠ gb163 ∧ k_ ≠ gb167 ∧ k_ ≠ gb171) ho0 (fun k_ hk_ => ⟨(Kd.freshB (g := gb163) (o := .cells #[.slice Ao54 t160.length co54] 26 (0, 0)) (by (with_reducible repeat (first | refine blk_drewN ?_ _ | refine blk_drew ?_ | refine blk_alloc ?_ _)); exact BK163.out) k_ hk_), (Kd.freshB (g := gb167) (o := .cells #[.slice Ao58 t164.length co58] 26 (0, 0)) (by (with_reducible repeat (first | refine blk_drewN ?_ _ | refine blk_drew ?_ | refine blk_alloc ?_ _)); exact BK167.out) k_ hk_), (Kd.freshB (g := gb171) (o := .cells #[.slice Ao63 t168.length co63] 26 (0, 0)) (by (with_reducible repeat (first | refine blk_drewN ?_ _ | refine blk_drew ?_ | refine blk_alloc ?_ _)); exact BK171.out) k_ hk_)⟩)) (below_size (by repeat (first | (with_reducible first | exact HB.out | apply below_alloc | apply pw_below_drewN | apply below_drew1 | refine below_set ?_ GE163.out | refine below_set ?_ GE167.out | refine below_set ?_ GE171.out) | exact HB.out)))); have n18_ := Aside0.mk (blk_below (g := gb163) (o := .cells #[.slice Ao54 t160.length co54] 26 (0, 0)) (by (with_reducible repeat (first | refine blk_drewN ?_ _ | refine blk_drew ?_ | refine blk_alloc ?_ _)); exact BK163.out) hb); have n19_ := Aside0.mk (blk_below (g := gb167) (o := .cells #[.slice Ao58 t164.length co58] 26 (0, 0)) (by (with_reducible repeat (first | refine blk_drewN ?_ _ | refine blk_drew ?_ | refine blk_alloc ?_ _)); exact BK167.out) hb); have n20_ := Aside0.mk (blk_below (g := gb171) (o := .cells #[.slice Ao63 t168.length co63] 26 (0, 0)) (by (with_reducible repeat (first | refine blk_drewN ?_ _ | refine blk_drew ?_ | refine blk_alloc ?_ _)); exact BK171.out) hb); have n21_ := Aside0.mk (below_step (by repeat (first | (with_reducible first | exact HB.out | apply below_alloc | apply pw_below_drewN | apply below_drew1 | refine below_set ?_ GE163.out | refine below_set ?_ GE167.out | refine below_set ?_ GE171.out) | exact HB.out)) hb); clear HO162; clear HO166; clear HO209; clear HO212; clear HO215; clear BK163; clear BK167; clear BK171; clear HB; have HO162 := n0_; have HO166 := n1_; have HO209 := n14_; have HO218 := n17_; have BK163 := n18_; have BK167 := n19_; have BK171 := n20_; have HB := n21_; clear n0_ n1_ n14_ n17_ n18_ n19_ n20_ n21_; (try clear hb); (try clear hb2); (try clear hk); (try clear hi); (try clear ho0)
                  obtain ⟨Ao101, co101, eo101⟩ := Kd.V_slice HO209.out
                  (first | subst eo101 | (injection eo101 with f1_ f2_ f3_; have f4_ := f1_.symm; have f5_ := f3_.symm; clear f1_ f2_ f3_; subst f4_; subst f5_))
                  obtain ⟨Ao102, co102, eo102⟩ := Kd.V_slice HO218.out
                  (first | subst eo102 | (injection eo102 with f1_ f2_ f3_; have f4_ := f1_.symm; have f5_ := f3_.symm; clear f1_ f2_ f3_; subst f4_; subst f5_))
                  refine hK.out _ _ ⟨(blk_cell BK163.out 0).trans rfl, (blk_cell BK167.out 0).trans rfl, (blk_cell BK171.out 0).trans rfl⟩ (fun hHeld => ?_)
                  clear hK K
                  refine norm_ (a' := ?_) ?_ ?_
                  rotate_left
                  · show Act.put _ (some 79) _ = _
                    simp only [Act.put, List.setIfInBounds_toArray, List.set_cons_zero, List.set_cons_succ, i64_w, i32_w]
                    rfl
                  refine one_ (i := 12) (N := some 80) #[true, true, true, true, true, true, true, true, true, true, true, true, true, false] rfl rfl (one_of HT_.out (by kernel_rfl)) (by decide) (fun K hK => ?_)
                  refine goes_ Tryd.func9 (by kernel_rfl) rfl #[.agg #[.slice Ao101 t207.length co101], .agg #[.slice Ao102 t216.length co102]] (by rfl) rfl rfl (by (try simp only [List.map_toArray, List.map_cons, List.map_nil]); first | done | rfl | (simp only [List.length_drop, List.length_take]; rfl)) ?_
                  with_reducible refine (bitset_Same.calls kj5 _ _ t207 _ _ t216 true _ ?side1 ?side2 ?side3 ?side4 A32.out).mono ?_
                  (case side1 => repeat (first | exact (Kd.V_reads' HO209.out).2.2 | (with_reducible refine Kd.C_alloc ?_ _) | (with_reducible refine Kd.C_drewN ?_ _) | (with_reducible refine Kd.C_drew ?_)))
                  (case side2 => exact (Kd.V_reads' HO209.out).2.1)
                  (case side3 => repeat (first | exact (Kd.V_reads' HO218.out).2.2 | (with_reducible refine Kd.C_alloc ?_ _) | (with_reducible refine Kd.C_drewN ?_ _) | (with_reducible refine Kd.C_drew ?_)))
                  (case side4 => exact (Kd.V_reads' HO218.out).2.1)
                  rintro e w103 ⟨rfl, hb⟩
                  refine ⟨_, rfl, ?_⟩
                  have n0_ := Aside0.mk (Kd.V_below (by (with_reducible repeat (first | apply Kd.V_alloc | apply Kd.V_drewN | apply Kd.V_drew)); exact HO162.out) hb); have n1_ := Aside0.mk (Kd.V_below (by (with_reducible repeat (first | apply Kd.V_alloc | apply Kd.V_drewN | apply Kd.V_drew)); exact HO166.out) hb); have n18_ := Aside0.mk (blk_below (g := gb163) (o := .cells #[.slice Ao54 t160.length co54] 26 (0, 0)) (by (with_reducible repeat (first | refine blk_drewN ?_ _ | refine blk_drew ?_ | refine blk_alloc ?_ _)); exact BK163.out) hb); have n19_ := Aside0.mk (blk_below (g := gb167) (o := .cells #[.slice Ao58 t164.length co58] 26 (0, 0)) (by (with_reducible repeat (first | refine blk_drewN ?_ _ | refine blk_drew ?_ | refine blk_alloc ?_ _)); exact BK167.out) hb); have n20_ := Aside0.mk (blk_below (g := gb171) (o := .cells #[.slice Ao63 t168.length co63] 26 (0, 0)) (by (with_reducible repeat (first | refine blk_drewN ?_ _ | refine blk_drew ?_ | refine blk_alloc ?_ _)); exact BK171.out) hb); have n21_ := Aside0.mk (below_step (by repeat (first | (with_reducible first | exact HB.out | apply below_alloc | apply pw_below_drewN | apply below_drew1 | refine below_set ?_ GE163.out | refine below_set ?_ GE167.out | refine below_set ?_ GE171.out) | exact HB.out)) hb); clear HO162; clear HO166; clear HO209; clear HO218; clear BK163; clear BK167; clear BK171; clear HB; have HO162 := n0_; have HO166 := n1_; have BK163 := n18_; have BK167 := n19_; have BK171 := n20_; have HB := n21_; clear n0_ n1_ n18_ n19_ n20_ n21_; (try clear hb); (try clear hb2); (try clear hk); (try clear hi)
                  refine hK.out _ _ ⟨(blk_cell BK163.out 0).trans rfl, (blk_cell BK167.out 0).trans rfl, (blk_cell BK171.out 0).trans rfl⟩ (fun hHeld => ?_)
                  clear hK K
                  refine norm_ (a' := ?_) ?_ ?_
                  rotate_left
                  · show Act.put _ (some 80) _ = _
                    simp only [Act.put, List.setIfInBounds_toArray, List.set_cons_zero, List.set_cons_succ, i64_w, i32_w]
                    rfl
                  refine pure_ (i := 13) (N := some 15) (v := ?_) (a' := ?_) #[true, true, true, true, true, true, true, true, true, true, true, true, true, true] rfl rfl (any_of HT_.out (by kernel_rfl)) (fun _ _ _ h => h) (Or.inl ⟨by rfl, ?_⟩) ?_ ?_
                  rotate_left
                  · intro w'
                    go_simp
                    with_reducible rfl
                  rotate_left
                  · simp only [Act.put, List.setIfInBounds_toArray, List.set_cons_zero, List.set_cons_succ, i64_w, i32_w]
                    rfl
                  refine done_ (done_of HT_.out (by kernel_rfl)) ?_
                  try go_wp2
                  have n0_ := Aside0.mk (Kd.V_drew HO162.out); have n1_ := Aside0.mk (Kd.V_drew HO166.out); have n18_ := Aside0.mk (blk_drew BK163.out); have n19_ := Aside0.mk (blk_drew BK167.out); have n20_ := Aside0.mk (blk_drew BK171.out); have n21_ := Aside0.mk (below_drew1 HB.out); clear HO162; clear HO166; clear BK163; clear BK167; clear BK171; clear HB; have HO162 := n0_; have HO166 := n1_; have BK163 := n18_; have BK167 := n19_; have BK171 := n20_; have HB := n21_; clear n0_ n1_ n18_ n19_ n20_ n21_
                  refine start_ (n := 11) (S := fun w' => w'.cell? ⟨gb163, 0, none⟩ = some (.slice Ao54 t160.length co54)) (ds := []) #[false, false, false, false, false, false, false, false, false, false, false] (by kernel_rfl) rfl rfl ((blk_cell BK163.out 0).trans rfl) (fun hHeld => ?_); refine with_tabW winnowerlaw09_BitsetLaws.tab10 winnowerlaw09_BitsetLaws.bits10 (fun HT_ HW_ => ?_)
                  generalize w103.drew = w104 at HO162 HO166 BK163 BK167 BK171 HB hHeld ⊢
                  refine pure_ (i := 1) (N := some 82) (v := ?_) (a' := ?_) #[false, true, false, false, false, false, false, false, false, false, false] rfl rfl (any_of HT_.out (by kernel_rfl)) (fun _ _ _ h => h) (Or.inl ⟨by rfl, ?_⟩) ?_ ?_
                  rotate_left
                  · intro w'
                    go_simp
                    with_reducible rfl
                  rotate_left
                  · simp only [Act.put, List.setIfInBounds_toArray, List.set_cons_zero, List.set_cons_succ, i64_w, i32_w]
                    rfl
                  refine pure_ (i := 3) (N := some 84) (v := ?_) (a' := ?_) #[false, true, false, true, false, false, false, false, false, false, false] rfl rfl (any_of HT_.out (by kernel_rfl)) (fun _ _ _ h => h) (Or.inl ⟨by rfl, ?_⟩) ?_ ?_
                  rotate_left
                  · intro w'
                    go_simp
                    with_reducible rfl
                  rotate_left
                  · simp only [Act.put, List.setIfInBounds_toArray, List.set_cons_zero, List.set_cons_succ, i64_w, i32_w]
                    rfl
                  refine pure_ (i := 6) (N := some 87) (v := ?_) (a' := ?_) #[false, true, false, true, false, false, true, false, false, false, false] rfl rfl (any_of HT_.out (by kernel_rfl)) (fun _ _ _ h => h) (Or.inl ⟨by rfl, ?_⟩) ?_ ?_
                  rotate_left
                  · intro w'
                    go_simp
                    with_reducible rfl
                  rotate_left
                  · simp only [Act.put, List.setIfInBounds_toArray, List.set_cons_zero, List.set_cons_succ, i64_w, i32_w]
                    rfl
                  refine take_ (i := 0) (N := some 81) (v := ?_) (a' := ?_) #[true, true, false, true, false, false, true, false, false, false, false] rfl rfl (take_ofW HT_.out HW_.out (by kernel_rfl)) (fun _ _ _ h => h) (Or.inl ⟨by rfl, ?_⟩) hHeld ?_ ?_
                  rotate_left
                  · intro w' s0
                    go_simp
                    with_reducible rfl
                  rotate_left
                  · simp only [Act.put, List.setIfInBounds_toArray, List.set_cons_zero, List.set_cons_succ, i64_w, i32_w]
                    rfl
                  refine take_ (i := 5) (N := some 86) (v := ?_) (a' := ?_) #[true, true, false, true, false, true, true, false, false, false, false] rfl rfl (take_ofW HT_.out HW_.out (by kernel_rfl)) (fun _ _ _ h => h) (Or.inl ⟨by rfl, ?_⟩) hHeld ?_ ?_
                  rotate_left
                  · intro w' s0
                    go_simp
                    with_reducible rfl
                  rotate_left
                  · simp only [Act.put, List.setIfInBounds_toArray, List.set_cons_zero, List.set_cons_succ, i64_w, i32_w]
                    rfl
                  refine one_ (i := 2) (N := some 83) #[true, true, true, true, false, true, true, false, false, false, false] rfl rfl (one_of HT_.out (by kernel_rfl)) (by decide) (fun K hK => ?_)
                  refine goes_ Tryd.func11 (by kernel_rfl) rfl #[.agg #[.slice Ao54 t160.length co54], .int .i64 a3] (by rfl) rfl rfl (by (try simp only [List.map_toArray, List.map_cons, List.map_nil]); first | done | rfl | (simp only [List.length_drop, List.length_take]; rfl)) ?_
                  with_reducible refine (bitset_Set_Not.calls _ _ t160 a3 t220 _ ?side1 ?side2 A33.out).mono ?_
                  (case side1 => repeat (first | exact (Kd.V_reads' HO162.out).2.2 | (with_reducible refine Kd.C_alloc ?_ _) | (with_reducible refine Kd.C_drewN ?_ _) | (with_reducible refine Kd.C_drew ?_)))
                  (case side2 => exact (Kd.V_reads' HO162.out).2.1)
                  rintro e w105 ⟨v221, rfl, ho0, hb⟩
                  refine ⟨_, rfl, ?_⟩
                  have n0_ := Aside0.mk (Kd.V_below (by (with_reducible repeat (first | apply Kd.V_alloc | apply Kd.V_drewN | apply Kd.V_drew)); exact HO162.out) hb); have n1_ := Aside0.mk (Kd.V_below (by (with_reducible repeat (first | apply Kd.V_alloc | apply Kd.V_drewN | apply Kd.V_drew)); exact HO166.out) hb); have n18_ := Aside0.mk (Kd.V_lower (Kd.V_mono (ok' := fun k_ => k_ ≠ gb163 ∧ k_ ≠ gb167 ∧ k_ ≠ gb171) ho0 (fun k_ hk_ => ⟨(Kd.freshB (g := gb163) (o := .cells #[.slice Ao54 t160.length co54] 26 (0, 0)) (by (with_reducible repeat (first | refine blk_drewN ?_ _ | refine blk_drew ?_ | refine blk_alloc ?_ _)); exact BK163.out) k_ hk_), (Kd.freshB (g := gb167) (o := .cells #[.slice Ao58 t164.length co58] 26 (0, 0)) (by (with_reducible repeat (first | refine blk_drewN ?_ _ | refine blk_drew ?_ | refine blk_alloc ?_ _)); exact BK167.out) k_ hk_), (Kd.freshB (g := gb171) (o := .cells #[.slice Ao63 t168.length co63] 26 (0, 0)) (by (with_reducible repeat (first | refine blk_drewN ?_ _ | refine blk_drew ?_ | refine blk_alloc ?_ _)); exact BK171.out) k_ hk_)⟩)) (below_size (by repeat (first | (with_reducible first | exact HB.out | apply below_alloc | apply pw_below_drewN | apply below_drew1 | refine below_set ?_ GE163.out | refine below_set ?_ GE167.out | refine below_set ?_ GE171.out) | exact HB.out)))); have n19_ := Aside0.mk (blk_below (g := gb163) (o := .cells #[.slice Ao54 t160.length co54] 26 (0, 0)) (by (with_reducible repeat (first | refine blk_drewN ?_ _ | refine blk_drew ?_ | refine blk_alloc ?_ _)); exact BK163.out) hb); have n20_ := Aside0.mk (blk_below (g := gb167) (o := .cells #[.slice Ao58 t164.length co58] 26 (0, 0)) (by (with_reducible repeat (first | refine blk_drewN ?_ _ | refine blk_drew ?_ | refine blk_alloc ?_ _)); exact BK167.out) hb); have n21_ := Aside0.mk (blk_below (g := gb171) (o := .cells #[.slice Ao63 t168.length co63] 26 (0, 0)) (by (with_reducible repeat (first | refine blk_drewN ?_ _ | refine blk_drew ?_ | refine blk_alloc ?_ _)); exact BK171.out) hb); have n22_ := Aside0.mk (below_step (by repeat (first | (with_reducible first | exact HB.out | apply below_alloc | apply pw_below_drewN | apply below_drew1 | refine below_set ?_ GE163.out | refine below_set ?_ GE167.out | refine below_set ?_ GE171.out) | exact HB.out)) hb); clear HO162; clear HO166; clear BK163; clear BK167; clear BK171; clear HB; have HO162 := n0_; have HO166 := n1_; have HO222 := n18_; have BK163 := n19_; have BK167 := n20_; have BK171 := n21_; have HB := n22_; clear n0_ n1_ n18_ n19_ n20_ n21_ n22_; (try clear hb); (try clear hb2); (try clear hk); (try clear hi); (try clear ho0)
                  obtain ⟨Ao106, co106, eo106⟩ := Kd.V_slice HO222.out
                  (first | subst eo106 | (injection eo106 with f1_ f2_ f3_; have f4_ := f1_.symm; have f5_ := f3_.symm; clear f1_ f2_ f3_; subst f4_; subst f5_))
                  refine hK.out _ _ ((blk_cell BK163.out 0).trans rfl) (fun hHeld => ?_)
                  clear hK K
                  refine norm_ (a' := ?_) ?_ ?_
                  rotate_left
                  · show Act.put _ (some 83) _ = _
                    simp only [Act.put, List.setIfInBounds_toArray, List.set_cons_zero, List.set_cons_succ, i64_w, i32_w]
                    rfl
                  refine one_ (i := 4) (N := some 85) #[true, true, true, true, true, true, true, false, false, false, false] rfl rfl (one_of HT_.out (by kernel_rfl)) (by decide) (fun K hK => ?_)
                  refine goes_ Tryd.func11 (by kernel_rfl) rfl #[.agg #[.slice Ao106 t220.length co106], .int .i64 a3] (by rfl) rfl rfl (by (try simp only [List.map_toArray, List.map_cons, List.map_nil]); first | done | rfl | (simp only [List.length_drop, List.length_take]; rfl)) ?_
                  with_reducible refine (bitset_Set_Not.calls _ _ t220 a3 t223 _ ?side1 ?side2 A34.out).mono ?_
                  (case side1 => repeat (first | exact (Kd.V_reads' HO222.out).2.2 | (with_reducible refine Kd.C_alloc ?_ _) | (with_reducible refine Kd.C_drewN ?_ _) | (with_reducible refine Kd.C_drew ?_)))
                  (case side2 => exact (Kd.V_reads' HO222.out).2.1)
                  rintro e w107 ⟨v224, rfl, ho0, hb⟩
                  refine ⟨_, rfl, ?_⟩
                  have n0_ := Aside0.mk (Kd.V_below (by (with_reducible repeat (first | apply Kd.V_alloc | apply Kd.V_drewN | apply Kd.V_drew)); exact HO162.out) hb); have n1_ := Aside0.mk (Kd.V_below (by (with_reducible repeat (first | apply Kd.V_alloc | apply Kd.V_drewN | apply Kd.V_drew)); exact HO166.out) hb); have n19_ := Aside0.mk (Kd.V_lower (Kd.V_mono (ok' := fun k_ => k_ ≠ gb163 ∧ k_ ≠ gb167 ∧ k_ ≠ gb171) ho0 (fun k_ hk_ => ⟨(Kd.freshB (g := gb163) (o := .cells #[.slice Ao54 t160.length co54] 26 (0, 0)) (by (with_reducible repeat (first | refine blk_drewN ?_ _ | refine blk_drew ?_ | refine blk_alloc ?_ _)); exact BK163.out) k_ hk_), (Kd.freshB (g := gb167) (o := .cells #[.slice Ao58 t164.length co58] 26 (0, 0)) (by (with_reducible repeat (first | refine blk_drewN ?_ _ | refine blk_drew ?_ | refine blk_alloc ?_ _)); exact BK167.out) k_ hk_), (Kd.freshB (g := gb171) (o := .cells #[.slice Ao63 t168.length co63] 26 (0, 0)) (by (with_reducible repeat (first | refine blk_drewN ?_ _ | refine blk_drew ?_ | refine blk_alloc ?_ _)); exact BK171.out) k_ hk_)⟩)) (below_size (by repeat (first | (with_reducible first | exact HB.out | apply below_alloc | apply pw_below_drewN | apply below_drew1 | refine below_set ?_ GE163.out | refine below_set ?_ GE167.out | refine below_set ?_ GE171.out) | exact HB.out)))); have n20_ := Aside0.mk (blk_below (g := gb163) (o := .cells #[.slice Ao54 t160.length co54] 26 (0, 0)) (by (with_reducible repeat (first | refine blk_drewN ?_ _ | refine blk_drew ?_ | refine blk_alloc ?_ _)); exact BK163.out) hb); have n21_ := Aside0.mk (blk_below (g := gb167) (o := .cells #[.slice Ao58 t164.length co58] 26 (0, 0)) (by (with_reducible repeat (first | refine blk_drewN ?_ _ | refine blk_drew ?_ | refine blk_alloc ?_ _)); exact BK167.out) hb); have n22_ := Aside0.mk (blk_below (g := gb171) (o := .cells #[.slice Ao63 t168.length co63] 26 (0, 0)) (by (with_reducible repeat (first | refine blk_drewN ?_ _ | refine blk_drew ?_ | refine blk_alloc ?_ _)); exact BK171.out) hb); have n23_ := Aside0.mk (below_step (by repeat (first | (with_reducible first | exact HB.out | apply below_alloc | apply pw_below_drewN | apply below_drew1 | refine below_set ?_ GE163.out | refine below_set ?_ GE167.out | refine below_set ?_ GE171.out) | exact HB.out)) hb); clear HO162; clear HO166; clear HO222; clear BK163; clear BK167; clear BK171; clear HB; have HO162 := n0_; have HO166 := n1_; have HO225 := n19_; have BK163 := n20_; have BK167 := n21_; have BK171 := n22_; have HB := n23_; clear n0_ n1_ n19_ n20_ n21_ n22_ n23_; (try clear hb); (try clear hb2); (try clear hk); (try clear hi); (try clear ho0)
                  refine hK.out _ _ ((blk_cell BK163.out 0).trans rfl) (fun hHeld => ?_)
                  clear hK K
                  refine norm_ (a' := ?_) ?_ ?_
                  rotate_left
                  · show Act.put _ (some 85) _ = _
                    simp only [Act.put, List.setIfInBounds_toArray, List.set_cons_zero, List.set_cons_succ, i64_w, i32_w]
                    rfl
                  refine one_ (i := 7) (N := some 88) #[true, true, true, true, true, true, true, true, false, false, false] rfl rfl (one_of HT_.out (by kernel_rfl)) (by decide) (fun K hK => ?_)
                  refine goes_ Tryd.func13 (by kernel_rfl) rfl #[.int .i64 a3] (by rfl) rfl rfl (by (try simp only [List.map_toArray, List.map_cons, List.map_nil]); first | done | rfl | (simp only [List.length_drop, List.length_take]; rfl)) ?_
                  with_reducible refine (bitset_Upto.calls a3 t226 _ A35.out).mono ?_
                  rintro e w108 ⟨v227, rfl, ho0, hb⟩
                  refine ⟨_, rfl, ?_⟩
                  have n0_ := Aside0.mk (Kd.V_below (by (with_reducible repeat (first | apply Kd.V_alloc | apply Kd.V_drewN | apply Kd.V_drew)); exact HO162.out) hb); have n1_ := Aside0.mk (Kd.V_below (by (with_reducible repeat (first | apply Kd.V_alloc | apply Kd.V_drewN | apply Kd.V_drew)); exact HO166.out) hb); have n19_ := Aside0.mk (Kd.V_below (by (with_reducible repeat (first | apply Kd.V_alloc | apply Kd.V_drewN | apply Kd.V_drew)); exact HO225.out) hb); have n20_ := Aside0.mk (Kd.V_lower (Kd.V_mono (ok' := fun k_ => k_ ≠ gb163 ∧ k_ ≠ gb167 ∧ k_ ≠ gb171) ho0 (fun k_ hk_ => ⟨(Kd.freshB (g := gb163) (o := .cells #[.slice Ao54 t160.length co54] 26 (0, 0)) (by (with_reducible repeat (first | refine blk_drewN ?_ _ | refine blk_drew ?_ | refine blk_alloc ?_ _)); exact BK163.out) k_ hk_), (Kd.freshB (g := gb167) (o := .cells #[.slice Ao58 t164.length co58] 26 (0, 0)) (by (with_reducible repeat (first | refine blk_drewN ?_ _ | refine blk_drew ?_ | refine blk_alloc ?_ _)); exact BK167.out) k_ hk_), (Kd.freshB (g := gb171) (o := .cells #[.slice Ao63 t168.length co63] 26 (0, 0)) (by (with_reducible repeat (first | refine blk_drewN ?_ _ | refine blk_drew ?_ | refine blk_alloc ?_ _)); exact BK171.out) k_ hk_)⟩)) (below_size (by repeat (first | (with_reducible first | exact HB.out | apply below_alloc | apply pw_below_drewN | apply below_drew1 | refine below_set ?_ GE163.out | refine below_set ?_ GE167.out | refine below_set ?_ GE171.out) | exact HB.out)))); have n21_ := Aside0.mk (blk_below (g := gb163) (o := .cells #[.slice Ao54 t160.length co54] 26 (0, 0)) (by (with_reducible repeat (first | refine blk_drewN ?_ _ | refine blk_drew ?_ | refine blk_alloc ?_ _)); exact BK163.out) hb); have n22_ := Aside0.mk (blk_below (g := gb167) (o := .cells #[.slice Ao58 t164.length co58] 26 (0, 0)) (by (with_reducible repeat (first | refine blk_drewN ?_ _ | refine blk_drew ?_ | refine blk_alloc ?_ _)); exact BK167.out) hb); have n23_ := Aside0.mk (blk_below (g := gb171) (o := .cells #[.slice Ao63 t168.length co63] 26 (0, 0)) (by (with_reducible repeat (first | refine blk_drewN ?_ _ | refine blk_drew ?_ | refine blk_alloc ?_ _)); exact BK171.out) hb); have n24_ := Aside0.mk (below_step (by repeat (first | (with_reducible first | exact HB.out | apply below_alloc | apply pw_below_drewN | apply below_drew1 | refine below_set ?_ GE163.out | refine below_set ?_ GE167.out | refine below_set ?_ GE171.out) | exact HB.out)) hb); clear HO162; clear HO166; clear HO225; clear BK163; clear BK167; clear BK171; clear HB; have HO162 := n0_; have HO166 := n1_; have HO225 := n19_; have HO228 := n20_; have BK163 := n21_; have BK167 := n22_; have BK171 := n23_; have HB := n24_; clear n0_ n1_ n19_ n20_ n21_ n22_ n23_ n24_; (try clear hb); (try clear hb2); (try clear hk); (try clear hi); (try clear ho0)
                  obtain ⟨Ao109, co109, eo109⟩ := Kd.V_slice HO228.out
                  (first | subst eo109 | (injection eo109 with f1_ f2_ f3_; have f4_ := f1_.symm; have f5_ := f3_.symm; clear f1_ f2_ f3_; subst f4_; subst f5_))
                  refine hK.out _ _ ((blk_cell BK163.out 0).trans rfl) (fun hHeld => ?_)
                  clear hK K
                  refine norm_ (a' := ?_) ?_ ?_
                  rotate_left
                  · show Act.put _ (some 88) _ = _
                    simp only [Act.put, List.setIfInBounds_toArray, List.set_cons_zero, List.set_cons_succ, i64_w, i32_w]
                    rfl
                  refine one_ (i := 8) (N := some 89) #[true, true, true, true, true, true, true, true, true, false, false] rfl rfl (one_of HT_.out (by kernel_rfl)) (by decide) (fun K hK => ?_)
                  refine goes_ Tryd.func10 (by kernel_rfl) rfl #[.agg #[.slice Ao54 t160.length co54], .agg #[.slice Ao109 t226.length co109]] (by rfl) rfl rfl (by (try simp only [List.map_toArray, List.map_cons, List.map_nil]); first | done | rfl | (simp only [List.length_drop, List.length_take]; rfl)) ?_
                  with_reducible refine (bitset_Set_And.calls _ _ t160 _ _ t226 t229 _ ?side1 ?side2 ?side3 ?side4 A36.out).mono ?_
                  (case side1 => repeat (first | exact (Kd.V_reads' HO162.out).2.2 | (with_reducible refine Kd.C_alloc ?_ _) | (with_reducible refine Kd.C_drewN ?_ _) | (with_reducible refine Kd.C_drew ?_)))
                  (case side2 => exact (Kd.V_reads' HO162.out).2.1)
                  (case side3 => repeat (first | exact (Kd.V_reads' HO228.out).2.2 | (with_reducible refine Kd.C_alloc ?_ _) | (with_reducible refine Kd.C_drewN ?_ _) | (with_reducible refine Kd.C_drew ?_)))
                  (case side4 => exact (Kd.V_reads' HO228.out).2.1)
                  rintro e w110 ⟨v230, rfl, ho0, hb⟩
                  refine ⟨_, rfl, ?_⟩
                  have n0_ := Aside0.mk (Kd.V_below (by (with_reducible repeat (first | apply Kd.V_alloc | apply Kd.V_drewN | apply Kd.V_drew)); exact HO162.out) hb); have n1_ := Aside0.mk (Kd.V_below (by (with_reducible repeat (first | apply Kd.V_alloc | apply Kd.V_drewN | apply Kd.V_drew)); exact HO166.out) hb); have n19_ := Aside0.mk (Kd.V_below (by (with_reducible repeat (first | apply Kd.V_alloc | apply Kd.V_drewN | apply Kd.V_drew)); exact HO225.out) hb); have n21_ := Aside0.mk (Kd.V_lower (Kd.V_mono (ok' := fun k_ => k_ ≠ gb163 ∧ k_ ≠ gb167 ∧ k_ ≠ gb171) ho0 (fun k_ hk_ => ⟨(Kd.freshB (g := gb163) (o := .cells #[.slice Ao54 t160.length co54] 26 (0, 0)) (by (with_reducible repeat (first | refine blk_drewN ?_ _ | refine blk_drew ?_ | refine blk_alloc ?_ _)); exact BK163.out) k_ hk_), (Kd.freshB (g := gb167) (o := .cells #[.slice Ao58 t164.length co58] 26 (0, 0)) (by (with_reducible repeat (first | refine blk_drewN ?_ _ | refine blk_drew ?_ | refine blk_alloc ?_ _)); exact BK167.out) k_ hk_), (Kd.freshB (g := gb171) (o := .cells #[.slice Ao63 t168.length co63] 26 (0, 0)) (by (with_reducible repeat (first | refine blk_drewN ?_ _ | refine blk_drew ?_ | refine blk_alloc ?_ _)); exact BK171.out) k_ hk_)⟩)) (below_size (by repeat (first | (with_reducible first | exact HB.out | apply below_alloc | apply pw_below_drewN | apply below_drew1 | refine below_set ?_ GE163.out | refine below_set ?_ GE167.out | refine below_set ?_ GE171.out) | exact HB.out)))); have n22_ := Aside0.mk (blk_below (g := gb163) (o := .cells #[.slice Ao54 t160.length co54] 26 (0, 0)) (by (with_reducible repeat (first | refine blk_drewN ?_ _ | refine blk_drew ?_ | refine blk_alloc ?_ _)); exact BK163.out) hb); have n23_ := Aside0.mk (blk_below (g := gb167) (o := .cells #[.slice Ao58 t164.length co58] 26 (0, 0)) (by (with_reducible repeat (first | refine blk_drewN ?_ _ | refine blk_drew ?_ | refine blk_alloc ?_ _)); exact BK167.out) hb); have n24_ := Aside0.mk (blk_below (g := gb171) (o := .cells #[.slice Ao63 t168.length co63] 26 (0, 0)) (by (with_reducible repeat (first | refine blk_drewN ?_ _ | refine blk_drew ?_ | refine blk_alloc ?_ _)); exact BK171.out) hb); have n25_ := Aside0.mk (below_step (by repeat (first | (with_reducible first | exact HB.out | apply below_alloc | apply pw_below_drewN | apply below_drew1 | refine below_set ?_ GE163.out | refine below_set ?_ GE167.out | refine below_set ?_ GE171.out) | exact HB.out)) hb); clear HO162; clear HO166; clear HO225; clear HO228; clear BK163; clear BK167; clear BK171; clear HB; have HO162 := n0_; have HO166 := n1_; have HO225 := n19_; have HO231 := n21_; have BK163 := n22_; have BK167 := n23_; have BK171 := n24_; have HB := n25_; clear n0_ n1_ n19_ n21_ n22_ n23_ n24_ n25_; (try clear hb); (try clear hb2); (try clear hk); (try clear hi); (try clear ho0)
                  obtain ⟨Ao111, co111, eo111⟩ := Kd.V_slice HO225.out
                  (first | subst eo111 | (injection eo111 with f1_ f2_ f3_; have f4_ := f1_.symm; have f5_ := f3_.symm; clear f1_ f2_ f3_; subst f4_; subst f5_))
                  obtain ⟨Ao112, co112, eo112⟩ := Kd.V_slice HO231.out
                  (first | subst eo112 | (injection eo112 with f1_ f2_ f3_; have f4_ := f1_.symm; have f5_ := f3_.symm; clear f1_ f2_ f3_; subst f4_; subst f5_))
                  refine hK.out _ _ ((blk_cell BK163.out 0).trans rfl) (fun hHeld => ?_)
                  clear hK K
                  refine norm_ (a' := ?_) ?_ ?_
                  rotate_left
                  · show Act.put _ (some 89) _ = _
                    simp only [Act.put, List.setIfInBounds_toArray, List.set_cons_zero, List.set_cons_succ, i64_w, i32_w]
                    rfl
                  refine one_ (i := 9) (N := some 90) #[true, true, true, true, true, true, true, true, true, true, false] rfl rfl (one_of HT_.out (by kernel_rfl)) (by decide) (fun K hK => ?_)
                  refine goes_ Tryd.func9 (by kernel_rfl) rfl #[.agg #[.slice Ao111 t223.length co111], .agg #[.slice Ao112 t229.length co112]] (by rfl) rfl rfl (by (try simp only [List.map_toArray, List.map_cons, List.map_nil]); first | done | rfl | (simp only [List.length_drop, List.length_take]; rfl)) ?_
                  with_reducible refine (bitset_Same.calls kj5 _ _ t223 _ _ t229 true _ ?side1 ?side2 ?side3 ?side4 A37.out).mono ?_
                  (case side1 => repeat (first | exact (Kd.V_reads' HO225.out).2.2 | (with_reducible refine Kd.C_alloc ?_ _) | (with_reducible refine Kd.C_drewN ?_ _) | (with_reducible refine Kd.C_drew ?_)))
                  (case side2 => exact (Kd.V_reads' HO225.out).2.1)
                  (case side3 => repeat (first | exact (Kd.V_reads' HO231.out).2.2 | (with_reducible refine Kd.C_alloc ?_ _) | (with_reducible refine Kd.C_drewN ?_ _) | (with_reducible refine Kd.C_drew ?_)))
                  (case side4 => exact (Kd.V_reads' HO231.out).2.1)
                  rintro e w113 ⟨rfl, hb⟩
                  refine ⟨_, rfl, ?_⟩
                  have n0_ := Aside0.mk (Kd.V_below (by (with_reducible repeat (first | apply Kd.V_alloc | apply Kd.V_drewN | apply Kd.V_drew)); exact HO162.out) hb); have n1_ := Aside0.mk (Kd.V_below (by (with_reducible repeat (first | apply Kd.V_alloc | apply Kd.V_drewN | apply Kd.V_drew)); exact HO166.out) hb); have n22_ := Aside0.mk (blk_below (g := gb163) (o := .cells #[.slice Ao54 t160.length co54] 26 (0, 0)) (by (with_reducible repeat (first | refine blk_drewN ?_ _ | refine blk_drew ?_ | refine blk_alloc ?_ _)); exact BK163.out) hb); have n23_ := Aside0.mk (blk_below (g := gb167) (o := .cells #[.slice Ao58 t164.length co58] 26 (0, 0)) (by (with_reducible repeat (first | refine blk_drewN ?_ _ | refine blk_drew ?_ | refine blk_alloc ?_ _)); exact BK167.out) hb); have n24_ := Aside0.mk (blk_below (g := gb171) (o := .cells #[.slice Ao63 t168.length co63] 26 (0, 0)) (by (with_reducible repeat (first | refine blk_drewN ?_ _ | refine blk_drew ?_ | refine blk_alloc ?_ _)); exact BK171.out) hb); have n25_ := Aside0.mk (below_step (by repeat (first | (with_reducible first | exact HB.out | apply below_alloc | apply pw_below_drewN | apply below_drew1 | refine below_set ?_ GE163.out | refine below_set ?_ GE167.out | refine below_set ?_ GE171.out) | exact HB.out)) hb); clear HO162; clear HO166; clear HO225; clear HO231; clear BK163; clear BK167; clear BK171; clear HB; have HO162 := n0_; have HO166 := n1_; have BK163 := n22_; have BK167 := n23_; have BK171 := n24_; have HB := n25_; clear n0_ n1_ n22_ n23_ n24_ n25_; (try clear hb); (try clear hb2); (try clear hk); (try clear hi)
                  refine hK.out _ _ ((blk_cell BK163.out 0).trans rfl) (fun hHeld => ?_)
                  clear hK K
                  refine norm_ (a' := ?_) ?_ ?_
                  rotate_left
                  · show Act.put _ (some 90) _ = _
                    simp only [Act.put, List.setIfInBounds_toArray, List.set_cons_zero, List.set_cons_succ, i64_w, i32_w]
                    rfl
                  refine pure_ (i := 10) (N := some 16) (v := ?_) (a' := ?_) #[true, true, true, true, true, true, true, true, true, true, true] rfl rfl (any_of HT_.out (by kernel_rfl)) (fun _ _ _ h => h) (Or.inl ⟨by rfl, ?_⟩) ?_ ?_
                  rotate_left
                  · intro w'
                    go_simp
                    with_reducible rfl
                  rotate_left
                  · simp only [Act.put, List.setIfInBounds_toArray, List.set_cons_zero, List.set_cons_succ, i64_w, i32_w]
                    rfl
                  refine done_ (done_of HT_.out (by kernel_rfl)) ?_
                  try go_wp2
                  have n0_ := Aside0.mk (Kd.V_drew HO162.out); have n1_ := Aside0.mk (Kd.V_drew HO166.out); have n22_ := Aside0.mk (blk_drew BK163.out); have n23_ := Aside0.mk (blk_drew BK167.out); have n24_ := Aside0.mk (blk_drew BK171.out); have n25_ := Aside0.mk (below_drew1 HB.out); clear HO162; clear HO166; clear BK163; clear BK167; clear BK171; clear HB; have HO162 := n0_; have HO166 := n1_; have BK163 := n22_; have BK167 := n23_; have BK171 := n24_; have HB := n25_; clear n0_ n1_ n22_ n23_ n24_ n25_
                  refine start_ (n := 37) (S := fun w' => w'.cell? ⟨gb163, 0, none⟩ = some (.slice Ao54 t160.length co54) ∧ w'.cell? ⟨gb167, 0, none⟩ = some (.slice Ao58 t164.length co58)) (ds := []) #[false, false, false, false, false, false, false, false, false, false, false, false, false, false, false, false, false, false, false, false, false, false, false, false, false, false, false, false, false, false, false, false, false, false, false, false, false] (by kernel_rfl) rfl rfl ⟨(blk_cell BK163.out 0).trans rfl, (blk_cell BK167.out 0).trans rfl⟩ (fun hHeld => ?_); refine with_tabW winnowerlaw09_BitsetLaws.tab11 winnowerlaw09_BitsetLaws.bits11 (fun HT_ HW_ => ?_)
                  generalize w113.drew = w114 at HO162 HO166 BK163 BK167 BK171 HB hHeld ⊢
                  refine pure_ (i := 0) (N := some 91) (v := ?_) (a' := ?_) #[true, false, false, false, false, false, false, false, false, false, false, false, false, false, false, false, false, false, false, false, false, false, false, false, false, false, false, false, false, false, false, false, false, false, false, false, false] rfl rfl (any_of HT_.out (by kernel_rfl)) (fun _ _ _ h => h) (Or.inl ⟨by rfl, ?_⟩) ?_ ?_
                  rotate_left
                  · intro w'
                    go_simp
                    with_reducible rfl
                  rotate_left
                  · simp only [Act.put, List.setIfInBounds_toArray, List.set_cons_zero, List.set_cons_succ, i64_w, i32_w]
                    rfl
                  refine pure_ (i := 1) (N := some 92) (v := ?_) (a' := ?_) #[true, true, false, false, false, false, false, false, false, false, false, false, false, false, false, false, false, false, false, false, false, false, false, false, false, false, false, false, false, false, false, false, false, false, false, false, false] rfl rfl (any_of HT_.out (by kernel_rfl)) (fun _ _ _ h => h) (Or.inl ⟨by rfl, ?_⟩) ?_ ?_
                  rotate_left
                  · intro w'
                    go_simp
                    with_reducible rfl
                  rotate_left
                  · simp only [Act.put, List.setIfInBounds_toArray, List.set_cons_zero, List.set_cons_succ, i64_w, i32_w]
                    rfl
                  refine pure_ (i := 2) (N := some 93) (v := ?_) (a' := ?_) #[true, true, true, false, false, false, false, false, false, false, false, false, false, false, false, false, false, false, false, false, false, false, false, false, false, false, false, false, false, false, false, false, false, false, false, false, false] rfl rfl (any_of HT_.out (by kernel_rfl)) (fun _ _ _ h => h) (Or.inl ⟨by rfl, ?_⟩) ?_ ?_
                  rotate_left
                  · intro w'
                    go_simp
                    with_reducible rfl
                  rotate_left
                  · simp only [Act.put, List.setIfInBounds_toArray, List.set_cons_zero, List.set_cons_succ, i64_w, i32_w]
                    rfl
                  refine pure_ (i := 3) (N := some 94) (v := ?_) (a' := ?_) #[true, true, true, true, false, false, false, false, false, false, false, false, false, false, false, false, false, false, false, false, false, false, false, false, false, false, false, false, false, false, false, false, false, false, false, false, false] rfl rfl (any_of HT_.out (by kernel_rfl)) (fun _ _ _ h => h) (Or.inl ⟨by rfl, ?_⟩) ?_ ?_
                  rotate_left
                  · intro w'
                    go_simp
                    with_reducible rfl
                  rotate_left
                  · simp only [Act.put, List.setIfInBounds_toArray, List.set_cons_zero, List.set_cons_succ, i64_w, i32_w]
                    rfl
                  refine pure_ (i := 4) (N := some 95) (v := ?_) (a' := ?_) #[true, true, true, true, true, false, false, false, false, false, false, false, false, false, false, false, false, false, false, false, false, false, false, false, false, false, false, false, false, false, false, false, false, false, false, false, false] rfl rfl (any_of HT_.out (by kernel_rfl)) (fun _ _ _ h => h) (Or.inl ⟨by rfl, ?_⟩) ?_ ?_
                  rotate_left
                  · intro w'
                    go_simp
                    with_reducible rfl
                  rotate_left
                  · simp only [Act.put, List.setIfInBounds_toArray, List.set_cons_zero, List.set_cons_succ, i64_w, i32_w]
                    rfl
                  refine pure_ (i := 5) (N := some 96) (v := ?_) (a' := ?_) #[true, true, true, true, true, true, false, false, false, false, false, false, false, false, false, false, false, false, false, false, false, false, false, false, false, false, false, false, false, false, false, false, false, false, false, false, false] rfl rfl (any_of HT_.out (by kernel_rfl)) (fun _ _ _ h => h) (Or.inl ⟨by rfl, ?_⟩) ?_ ?_
                  rotate_left
                  · intro w'
                    go_simp
                    with_reducible rfl
                  rotate_left
                  · simp only [Act.put, List.setIfInBounds_toArray, List.set_cons_zero, List.set_cons_succ, i64_w, i32_w]
                    rfl
                  refine pure_ (i := 6) (N := some 97) (v := ?_) (a' := ?_) #[true, true, true, true, true, true, true, false, false, false, false, false, false, false, false, false, false, false, false, false, false, false, false, false, false, false, false, false, false, false, false, false, false, false, false, false, false] rfl rfl (any_of HT_.out (by kernel_rfl)) (fun _ _ _ h => h) (Or.inl ⟨by rfl, ?_⟩) ?_ ?_
                  rotate_left
                  · intro w'
                    go_simp
                    with_reducible rfl
                  rotate_left
                  · simp only [Act.put, List.setIfInBounds_toArray, List.set_cons_zero, List.set_cons_succ, i64_w, i32_w]
                    rfl
                  refine pure_ (i := 7) (N := some 98) (v := ?_) (a' := ?_) #[true, true, true, true, true, true, true, true, false, false, false, false, false, false, false, false, false, false, false, false, false, false, false, false, false, false, false, false, false, false, false, false, false, false, false, false, false] rfl rfl (any_of HT_.out (by kernel_rfl)) (fun _ _ _ h => h) (Or.inl ⟨by rfl, ?_⟩) ?_ ?_
                  rotate_left
                  · intro w'
                    go_simp
                    with_reducible rfl
                  rotate_left
                  · simp only [Act.put, List.setIfInBounds_toArray, List.set_cons_zero, List.set_cons_succ, i64_w, i32_w]
                    rfl
                  refine pure_ (i := 8) (N := some 99) (v := ?_) (a' := ?_) #[true, true, true, true, true, true, true, true, true, false, false, false, false, false, false, false, false, false, false, false, false, false, false, false, false, false, false, false, false, false, false, false, false, false, false, false, false] rfl rfl (any_of HT_.out (by kernel_rfl)) (fun _ _ _ h => h) (Or.inl ⟨by rfl, ?_⟩) ?_ ?_
                  rotate_left
                  · intro w'
                    go_simp
                    with_reducible rfl
                  rotate_left
                  · simp only [Act.put, List.setIfInBounds_toArray, List.set_cons_zero, List.set_cons_succ, i64_w, i32_w]
                    rfl
                  refine pure_ (i := 9) (N := some 100) (v := ?_) (a' := ?_) #[true, true, true, true, true, true, true, true, true, true, false, false, false, false, false, false, false, false, false, false, false, false, false, false, false, false, false, false, false, false, false, false, false, false, false, false, false] rfl rfl (any_of HT_.out (by kernel_rfl)) (fun _ _ _ h => h) (Or.inl ⟨by rfl, ?_⟩) ?_ ?_
                  rotate_left
                  · intro w'
                    go_simp
                    with_reducible rfl
                  rotate_left
                  · simp only [Act.put, List.setIfInBounds_toArray, List.set_cons_zero, List.set_cons_succ, i64_w, i32_w]
                    rfl
                  refine pure_ (i := 10) (N := some 101) (v := ?_) (a' := ?_) #[true, true, true, true, true, true, true, true, true, true, true, false, false, false, false, false, false, false, false, false, false, false, false, false, false, false, false, false, false, false, false, false, false, false, false, false, false] rfl rfl (any_of HT_.out (by kernel_rfl)) (fun _ _ _ h => h) (Or.inl ⟨by rfl, ?_⟩) ?_ ?_
                  rotate_left
                  · intro w'
                    go_simp
                    with_reducible rfl
                  rotate_left
                  · simp only [Act.put, List.setIfInBounds_toArray, List.set_cons_zero, List.set_cons_succ, i64_w, i32_w]
                    rfl
                  refine take_ (i := 11) (N := some 102) (v := ?_) (a' := ?_) #[true, true, true, true, true, true, true, true, true, true, true, true, false, false, false, false, false, false, false, false, false, false, false, false, false, false, false, false, false, false, false, false, false, false, false, false, false] rfl rfl (take_ofW HT_.out HW_.out (by kernel_rfl)) (fun _ _ _ h => h) (Or.inl ⟨by rfl, ?_⟩) hHeld ?_ ?_
                  rotate_left
                  · rintro w' ⟨s0, s1⟩
                    go_simp
                    with_reducible rfl
                  rotate_left
                  · simp only [Act.put, List.setIfInBounds_toArray, List.set_cons_zero, List.set_cons_succ, i64_w, i32_w]
                    rfl
                  refine take_ (i := 12) (N := some 103) (v := ?_) (a' := ?_) #[true, true, true, true, true, true, true, true, true, true, true, true, true, false, false, false, false, false, false, false, false, false, false, false, false, false, false, false, false, false, false, false, false, false, false, false, false] rfl rfl (take_ofW HT_.out HW_.out (by kernel_rfl)) (fun _ _ _ h => h) (Or.inl ⟨by rfl, ?_⟩) hHeld ?_ ?_
                  rotate_left
                  · rintro w' ⟨s0, s1⟩
                    go_simp
                    with_reducible rfl
                  rotate_left
                  · simp only [Act.put, List.setIfInBounds_toArray, List.set_cons_zero, List.set_cons_succ, i64_w, i32_w]
                    rfl
                  refine take_ (i := 15) (N := some 106) (v := ?_) (a' := ?_) #[true, true, true, true, true, true, true, true, true, true, true, true, true, false, false, true, false, false, false, false, false, false, false, false, false, false, false, false, false, false, false, false, false, false, false, false, false] rfl rfl (take_ofW HT_.out HW_.out (by kernel_rfl)) (fun _ _ _ h => h) (Or.inl ⟨by rfl, ?_⟩) hHeld ?_ ?_
                  rotate_left
                  · rintro w' ⟨s0, s1⟩
                    go_simp
                    with_reducible rfl
                  rotate_left
                  · simp only [Act.put, List.setIfInBounds_toArray, List.set_cons_zero, List.set_cons_succ, i64_w, i32_w]
                    rfl
                  refine take_ (i := 16) (N := some 107) (v := ?_) (a' := ?_) #[true, true, true, true, true, true, true, true, true, true, true, true, true, false, false, true, true, false, false, false, false, false, false, false, false, false, false, false, false, false, false, false, false, false, false, false, false] rfl rfl (take_ofW HT_.out HW_.out (by kernel_rfl)) (fun _ _ _ h => h) (Or.inl ⟨by rfl, ?_⟩) hHeld ?_ ?_
                  rotate_left
                  · rintro w' ⟨s0, s1⟩
                    go_simp
                    with_reducible rfl
                  rotate_left
                  · simp only [Act.put, List.setIfInBounds_toArray, List.set_cons_zero, List.set_cons_succ, i64_w, i32_w]
                    rfl
                  refine take_ (i := 20) (N := some 111) (v := ?_) (a' := ?_) #[true, true, true, true, true, true, true, true, true, true, true, true, true, false, false, true, true, false, false, false, true, false, false, false, false, false, false, false, false, false, false, false, false, false, false, false, false] rfl rfl (take_ofW HT_.out HW_.out (by kernel_rfl)) (fun _ _ _ h => h) (Or.inl ⟨by rfl, ?_⟩) hHeld ?_ ?_
                  rotate_left
                  · rintro w' ⟨s0, s1⟩
                    go_simp
                    with_reducible rfl
                  rotate_left
                  · simp only [Act.put, List.setIfInBounds_toArray, List.set_cons_zero, List.set_cons_succ, i64_w, i32_w]
                    rfl
                  refine take_ (i := 22) (N := some 113) (v := ?_) (a' := ?_) #[true, true, true, true, true, true, true, true, true, true, true, true, true, false, false, true, true, false, false, false, true, false, true, false, false, false, false, false, false, false, false, false, false, false, false, false, false] rfl rfl (take_ofW HT_.out HW_.out (by kernel_rfl)) (fun _ _ _ h => h) (Or.inl ⟨by rfl, ?_⟩) hHeld ?_ ?_
                  rotate_left
                  · rintro w' ⟨s0, s1⟩
                    go_simp
                    with_reducible rfl
                  rotate_left
                  · simp only [Act.put, List.setIfInBounds_toArray, List.set_cons_zero, List.set_cons_succ, i64_w, i32_w]
                    rfl
                  refine one_ (i := 13) (N := some 104) #[true, true, true, true, true, true, true, true, true, true, true, true, true, true, false, true, true, false, false, false, true, false, true, false, false, false, false, false, false, false, false, false, false, false, false, false, false] rfl rfl (one_of HT_.out (by kernel_rfl)) (by decide) (fun K hK => ?_)
                  refine goes_ Tryd.func10 (by kernel_rfl) rfl #[.agg #[.slice Ao54 t160.length co54], .agg #[.slice Ao58 t164.length co58]] (by rfl) rfl rfl (by (try simp only [List.map_toArray, List.map_cons, List.map_nil]); first | done | rfl | (simp only [List.length_drop, List.length_take]; rfl)) ?_
                  with_reducible refine (bitset_Set_And.calls _ _ t160 _ _ t164 t233 _ ?side1 ?side2 ?side3 ?side4 A42.out).mono ?_
                  (case side1 => repeat (first | exact (Kd.V_reads' HO162.out).2.2 | (with_reducible refine Kd.C_alloc ?_ _) | (with_reducible refine Kd.C_drewN ?_ _) | (with_reducible refine Kd.C_drew ?_)))
                  (case side2 => exact (Kd.V_reads' HO162.out).2.1)
                  (case side3 => repeat (first | exact (Kd.V_reads' HO166.out).2.2 | (with_reducible refine Kd.C_alloc ?_ _) | (with_reducible refine Kd.C_drewN ?_ _) | (with_reducible refine Kd.C_drew ?_)))
                  (case side4 => exact (Kd.V_reads' HO166.out).2.1)
                  rintro e w115 ⟨v234, rfl, ho0, hb⟩
                  refine ⟨_, rfl, ?_⟩
                  have n0_ := Aside0.mk (Kd.V_below (by (with_reducible repeat (first | apply Kd.V_alloc | apply Kd.V_drewN | apply Kd.V_drew)); exact HO162.out) hb); have n1_ := Aside0.mk (Kd.V_below (by (with_reducible repeat (first | apply Kd.V_alloc | apply Kd.V_drewN | apply Kd.V_drew)); exact HO166.out) hb); have n22_ := Aside0.mk (Kd.V_lower (Kd.V_mono (ok' := fun k_ => k_ ≠ gb163 ∧ k_ ≠ gb167 ∧ k_ ≠ gb171) ho0 (fun k_ hk_ => ⟨(Kd.freshB (g := gb163) (o := .cells #[.slice Ao54 t160.length co54] 26 (0, 0)) (by (with_reducible repeat (first | refine blk_drewN ?_ _ | refine blk_drew ?_ | refine blk_alloc ?_ _)); exact BK163.out) k_ hk_), (Kd.freshB (g := gb167) (o := .cells #[.slice Ao58 t164.length co58] 26 (0, 0)) (by (with_reducible repeat (first | refine blk_drewN ?_ _ | refine blk_drew ?_ | refine blk_alloc ?_ _)); exact BK167.out) k_ hk_), (Kd.freshB (g := gb171) (o := .cells #[.slice Ao63 t168.length co63] 26 (0, 0)) (by (with_reducible repeat (first | refine blk_drewN ?_ _ | refine blk_drew ?_ | refine blk_alloc ?_ _)); exact BK171.out) k_ hk_)⟩)) (below_size (by repeat (first | (with_reducible first | exact HB.out | apply below_alloc | apply pw_below_drewN | apply below_drew1 | refine below_set ?_ GE163.out | refine below_set ?_ GE167.out | refine below_set ?_ GE171.out) | exact HB.out)))); have n23_ := Aside0.mk (blk_below (g := gb163) (o := .cells #[.slice Ao54 t160.length co54] 26 (0, 0)) (by (with_reducible repeat (first | refine blk_drewN ?_ _ | refine blk_drew ?_ | refine blk_alloc ?_ _)); exact BK163.out) hb); have n24_ := Aside0.mk (blk_below (g := gb167) (o := .cells #[.slice Ao58 t164.length co58] 26 (0, 0)) (by (with_reducible repeat (first | refine blk_drewN ?_ _ | refine blk_drew ?_ | refine blk_alloc ?_ _)); exact BK167.out) hb); have n25_ := Aside0.mk (blk_below (g := gb171) (o := .cells #[.slice Ao63 t168.length co63] 26 (0, 0)) (by (with_reducible repeat (first | refine blk_drewN ?_ _ | refine blk_drew ?_ | refine blk_alloc ?_ _)); exact BK171.out) hb); have n26_ := Aside0.mk (below_step (by repeat (first | (with_reducible first | exact HB.out | apply below_alloc | apply pw_below_drewN | apply below_drew1 | refine below_set ?_ GE163.out | refine below_set ?_ GE167.out | refine below_set ?_ GE171.out) | exact HB.out)) hb); clear HO162; clear HO166; clear BK163; clear BK167; clear BK171; clear HB; have HO162 := n0_; have HO166 := n1_; have HO235 := n22_; have BK163 := n23_; have BK167 := n24_; have BK171 := n25_; have HB := n26_; clear n0_ n1_ n22_ n23_ n24_ n25_ n26_; (try clear hb); (try clear hb2); (try clear hk); (try clear hi); (try clear ho0)
                  obtain ⟨Ao116, co116, eo116⟩ := Kd.V_slice HO235.out
                  (first | subst eo116 | (injection eo116 with f1_ f2_ f3_; have f4_ := f1_.symm; have f5_ := f3_.symm; clear f1_ f2_ f3_; subst f4_; subst f5_))
                  refine hK.out _ _ ⟨(blk_cell BK163.out 0).trans rfl, (blk_cell BK167.out 0).trans rfl⟩ (fun hHeld => ?_)
                  clear hK K
                  refine norm_ (a' := ?_) ?_ ?_
                  rotate_left
                  · show Act.put _ (some 104) _ = _
                    simp only [Act.put, List.setIfInBounds_toArray, List.set_cons_zero, List.set_cons_succ, i64_w, i32_w]
                    rfl
                  refine one_ (i := 14) (N := some 105) #[true, true, true, true, true, true, true, true, true, true, true, true, true, true, true, true, true, false, false, false, true, false, true, false, false, false, false, false, false, false, false, false, false, false, false, false, false] rfl rfl (one_of HT_.out (by kernel_rfl)) (by decide) (fun K hK => ?_)
                  refine goes_ Tryd.func14 (by kernel_rfl) rfl #[.agg #[.slice Ao116 t233.length co116]] (by rfl) rfl rfl (by (try simp only [List.map_toArray, List.map_cons, List.map_nil]); first | done | rfl | (simp only [List.length_drop, List.length_take]; rfl)) ?_
                  with_reducible refine (bitset_Set_Count.calls kj5 _ _ t233 t236 _ ?side1 ?side2 A43.out).mono ?_
                  (case side1 => repeat (first | exact (Kd.V_reads' HO235.out).2.2 | (with_reducible refine Kd.C_alloc ?_ _) | (with_reducible refine Kd.C_drewN ?_ _) | (with_reducible refine Kd.C_drew ?_)))
                  (case side2 => exact (Kd.V_reads' HO235.out).2.1)
                  rintro e w117 ⟨rfl, hb⟩
                  refine ⟨_, rfl, ?_⟩
                  have n0_ := Aside0.mk (Kd.V_below (by (with_reducible repeat (first | apply Kd.V_alloc | apply Kd.V_drewN | apply Kd.V_drew)); exact HO162.out) hb); have n1_ := Aside0.mk (Kd.V_below (by (with_reducible repeat (first | apply Kd.V_alloc | apply Kd.V_drewN | apply Kd.V_drew)); exact HO166.out) hb); have n23_ := Aside0.mk (blk_below (g := gb163) (o := .cells #[.slice Ao54 t160.length co54] 26 (0, 0)) (by (with_reducible repeat (first | refine blk_drewN ?_ _ | refine blk_drew ?_ | refine blk_alloc ?_ _)); exact BK163.out) hb); have n24_ := Aside0.mk (blk_below (g := gb167) (o := .cells #[.slice Ao58 t164.length co58] 26 (0, 0)) (by (with_reducible repeat (first | refine blk_drewN ?_ _ | refine blk_drew ?_ | refine blk_alloc ?_ _)); exact BK167.out) hb); have n25_ := Aside0.mk (blk_below (g := gb171) (o := .cells #[.slice Ao63 t168.length co63] 26 (0, 0)) (by (with_reducible repeat (first | refine blk_drewN ?_ _ | refine blk_drew ?_ | refine blk_alloc ?_ _)); exact BK171.out) hb); have n26_ := Aside0.mk (below_step (by repeat (first | (with_reducible first | exact HB.out | apply below_alloc | apply pw_below_drewN | apply below_drew1 | refine below_set ?_ GE163.out | refine below_set ?_ GE167.out | refine below_set ?_ GE171.out) | exact HB.out)) hb); clear HO162; clear HO166; clear HO235; clear BK163; clear BK167; clear BK171; clear HB; have HO162 := n0_; have HO166 := n1_; have BK163 := n23_; have BK167 := n24_; have BK171 := n25_; have HB := n26_; clear n0_ n1_ n23_ n24_ n25_ n26_; (try clear hb); (try clear hb2); (try clear hk); (try clear hi)
                  refine hK.out _ _ ⟨(blk_cell BK163.out 0).trans rfl, (blk_cell BK167.out 0).trans rfl⟩ (fun hHeld => ?_)
                  clear hK K
                  refine norm_ (a' := ?_) ?_ ?_
                  rotate_left
                  · show Act.put _ (some 105) _ = _
                    simp only [Act.put, List.setIfInBounds_toArray, List.set_cons_zero, List.set_cons_succ, i64_w, i32_w]
                    rfl
                  refine one_ (i := 17) (N := some 108) #[true, true, true, true, true, true, true, true, true, true, true, true, true, true, true, true, true, true, false, false, true, false, true, false, false, false, false, false, false, false, false, false, false, false, false, false, false] rfl rfl (one_of HT_.out (by kernel_rfl)) (by decide) (fun K hK => ?_)
                  refine goes_ Tryd.func12 (by kernel_rfl) rfl #[.agg #[.slice Ao54 t160.length co54], .agg #[.slice Ao58 t164.length co58]] (by rfl) rfl rfl (by (try simp only [List.map_toArray, List.map_cons, List.map_nil]); first | done | rfl | (simp only [List.length_drop, List.length_take]; rfl)) ?_
                  with_reducible refine (bitset_Set_Or.calls _ _ t160 _ _ t164 t237 _ ?side1 ?side2 ?side3 ?side4 A44.out).mono ?_
                  (case side1 => repeat (first | exact (Kd.V_reads' HO162.out).2.2 | (with_reducible refine Kd.C_alloc ?_ _) | (with_reducible refine Kd.C_drewN ?_ _) | (with_reducible refine Kd.C_drew ?_)))
                  (case side2 => exact (Kd.V_reads' HO162.out).2.1)
                  (case side3 => repeat (first | exact (Kd.V_reads' HO166.out).2.2 | (with_reducible refine Kd.C_alloc ?_ _) | (with_reducible refine Kd.C_drewN ?_ _) | (with_reducible refine Kd.C_drew ?_)))
                  (case side4 => exact (Kd.V_reads' HO166.out).2.1)
                  rintro e w118 ⟨v238, rfl, ho0, hb⟩
                  refine ⟨_, rfl, ?_⟩
                  have n0_ := Aside0.mk (Kd.V_below (by (with_reducible repeat (first | apply Kd.V_alloc | apply Kd.V_drewN | apply Kd.V_drew)); exact HO162.out) hb); have n1_ := Aside0.mk (Kd.V_below (by (with_reducible repeat (first | apply Kd.V_alloc | apply Kd.V_drewN | apply Kd.V_drew)); exact HO166.out) hb); have n23_ := Aside0.mk (Kd.V_lower (Kd.V_mono (ok' := fun k_ => k_ ≠ gb163 ∧ k_ ≠ gb167 ∧ k_ ≠ gb171) ho0 (fun k_ hk_ => ⟨(Kd.freshB (g := gb163) (o := .cells #[.slice Ao54 t160.length co54] 26 (0, 0)) (by (with_reducible repeat (first | refine blk_drewN ?_ _ | refine blk_drew ?_ | refine blk_alloc ?_ _)); exact BK163.out) k_ hk_), (Kd.freshB (g := gb167) (o := .cells #[.slice Ao58 t164.length co58] 26 (0, 0)) (by (with_reducible repeat (first | refine blk_drewN ?_ _ | refine blk_drew ?_ | refine blk_alloc ?_ _)); exact BK167.out) k_ hk_), (Kd.freshB (g := gb171) (o := .cells #[.slice Ao63 t168.length co63] 26 (0, 0)) (by (with_reducible repeat (first | refine blk_drewN ?_ _ | refine blk_drew ?_ | refine blk_alloc ?_ _)); exact BK171.out) k_ hk_)⟩)) (below_size (by repeat (first | (with_reducible first | exact HB.out | apply below_alloc | apply pw_below_drewN | apply below_drew1 | refine below_set ?_ GE163.out | refine below_set ?_ GE167.out | refine below_set ?_ GE171.out) | exact HB.out)))); have n24_ := Aside0.mk (blk_below (g := gb163) (o := .cells #[.slice Ao54 t160.length co54] 26 (0, 0)) (by (with_reducible repeat (first | refine blk_drewN ?_ _ | refine blk_drew ?_ | refine blk_alloc ?_ _)); exact BK163.out) hb); have n25_ := Aside0.mk (blk_below (g := gb167) (o := .cells #[.slice Ao58 t164.length co58] 26 (0, 0)) (by (with_reducible repeat (first | refine blk_drewN ?_ _ | refine blk_drew ?_ | refine blk_alloc ?_ _)); exact BK167.out) hb); have n26_ := Aside0.mk (blk_below (g := gb171) (o := .cells #[.slice Ao63 t168.length co63] 26 (0, 0)) (by (with_reducible repeat (first | refine blk_drewN ?_ _ | refine blk_drew ?_ | refine blk_alloc ?_ _)); exact BK171.out) hb); have n27_ := Aside0.mk (below_step (by repeat (first | (with_reducible first | exact HB.out | apply below_alloc | apply pw_below_drewN | apply below_drew1 | refine below_set ?_ GE163.out | refine below_set ?_ GE167.out | refine below_set ?_ GE171.out) | exact HB.out)) hb); clear HO162; clear HO166; clear BK163; clear BK167; clear BK171; clear HB; have HO162 := n0_; have HO166 := n1_; have HO239 := n23_; have BK163 := n24_; have BK167 := n25_; have BK171 := n26_; have HB := n27_; clear n0_ n1_ n23_ n24_ n25_ n26_ n27_; (try clear hb); (try clear hb2); (try clear hk); (try clear hi); (try clear ho0)
                  obtain ⟨Ao119, co119, eo119⟩ := Kd.V_slice HO239.out
                  (first | subst eo119 | (injection eo119 with f1_ f2_ f3_; have f4_ := f1_.symm; have f5_ := f3_.symm; clear f1_ f2_ f3_; subst f4_; subst f5_))
                  refine hK.out _ _ ⟨(blk_cell BK163.out 0).trans rfl, (blk_cell BK167.out 0).trans rfl⟩ (fun hHeld => ?_)
                  clear hK K
                  refine norm_ (a' := ?_) ?_ ?_
                  rotate_left
                  · show Act.put _ (some 108) _ = _
                    simp only [Act.put, List.setIfInBounds_toArray, List.set_cons_zero, List.set_cons_succ, i64_w, i32_w]
                    rfl
                  refine one_ (i := 18) (N := some 109) #[true, true, true, true, true, true, true, true, true, true, true, true, true, true, true, true, true, true, true, false, true, false, true, false, false, false, false, false, false, false, false, false, false, false, false, false, false] rfl rfl (one_of HT_.out (by kernel_rfl)) (by decide) (fun K hK => ?_)
                  refine goes_ Tryd.func14 (by kernel_rfl) rfl #[.agg #[.slice Ao119 t237.length co119]] (by rfl) rfl rfl (by (try simp only [List.map_toArray, List.map_cons, List.map_nil]); first | done | rfl | (simp only [List.length_drop, List.length_take]; rfl)) ?_
                  with_reducible refine (bitset_Set_Count.calls kj5 _ _ t237 t240 _ ?side1 ?side2 A45.out).mono ?_
                  (case side1 => repeat (first | exact (Kd.V_reads' HO239.out).2.2 | (with_reducible refine Kd.C_alloc ?_ _) | (with_reducible refine Kd.C_drewN ?_ _) | (with_reducible refine Kd.C_drew ?_)))
                  (case side2 => exact (Kd.V_reads' HO239.out).2.1)
                  rintro e w120 ⟨rfl, hb⟩
                  refine ⟨_, rfl, ?_⟩
                  have n0_ := Aside0.mk (Kd.V_below (by (with_reducible repeat (first | apply Kd.V_alloc | apply Kd.V_drewN | apply Kd.V_drew)); exact HO162.out) hb); have n1_ := Aside0.mk (Kd.V_below (by (with_reducible repeat (first | apply Kd.V_alloc | apply Kd.V_drewN | apply Kd.V_drew)); exact HO166.out) hb); have n24_ := Aside0.mk (blk_below (g := gb163) (o := .cells #[.slice Ao54 t160.length co54] 26 (0, 0)) (by (with_reducible repeat (first | refine blk_drewN ?_ _ | refine blk_drew ?_ | refine blk_alloc ?_ _)); exact BK163.out) hb); have n25_ := Aside0.mk (blk_below (g := gb167) (o := .cells #[.slice Ao58 t164.length co58] 26 (0, 0)) (by (with_reducible repeat (first | refine blk_drewN ?_ _ | refine blk_drew ?_ | refine blk_alloc ?_ _)); exact BK167.out) hb); have n26_ := Aside0.mk (blk_below (g := gb171) (o := .cells #[.slice Ao63 t168.length co63] 26 (0, 0)) (by (with_reducible repeat (first | refine blk_drewN ?_ _ | refine blk_drew ?_ | refine blk_alloc ?_ _)); exact BK171.out) hb); have n27_ := Aside0.mk (below_step (by repeat (first | (with_reducible first | exact HB.out | apply below_alloc | apply pw_below_drewN | apply below_drew1 | refine below_set ?_ GE163.out | refine below_set ?_ GE167.out | refine below_set ?_ GE171.out) | exact HB.out)) hb); clear HO162; clear HO166; clear HO239; clear BK163; clear BK167; clear BK171; clear HB; have HO162 := n0_; have HO166 := n1_; have BK163 := n24_; have BK167 := n25_; have BK171 := n26_; have HB := n27_; clear n0_ n1_ n24_ n25_ n26_ n27_; (try clear hb); (try clear hb2); (try clear hk); (try clear hi)
                  refine hK.out _ _ ⟨(blk_cell BK163.out 0).trans rfl, (blk_cell BK167.out 0).trans rfl⟩ (fun hHeld => ?_)
                  clear hK K
                  refine norm_ (a' := ?_) ?_ ?_
                  rotate_left
                  · show Act.put _ (some 109) _ = _
                    simp only [Act.put, List.setIfInBounds_toArray, List.set_cons_zero, List.set_cons_succ, i64_w, i32_w]
                    rfl
                  refine pure_ (i := 19) (N := some 110) (v := ?_) (a' := ?_) #[true, true, true, true, true, true, true, true, true, true, true, true, true, true, true, true, true, true, true, true, true, false, true, false, false, false, false, false, false, false, false, false, false, false, false, false, false] rfl rfl (any_of HT_.out (by kernel_rfl)) (fun _ _ _ h => h) (Or.inl ⟨by rfl, ?_⟩) ?_ ?_
                  rotate_left
                  · intro w'
                    go_simp
                    with_reducible rfl
                  rotate_left
                  · simp only [Act.put, List.setIfInBounds_toArray, List.set_cons_zero, List.set_cons_succ, i64_w, i32_w]
                    rfl
                  refine one_ (i := 21) (N := some 112) #[true, true, true, true, true, true, true, true, true, true, true, true, true, true, true, true, true, true, true, true, true, true, true, false, false, false, false, false, false, false, false, false, false, false, false, false, false] rfl rfl (one_of HT_.out (by kernel_rfl)) (by decide) (fun K hK => ?_)
                  refine goes_ Tryd.func14 (by kernel_rfl) rfl #[.agg #[.slice Ao54 t160.length co54]] (by rfl) rfl rfl (by (try simp only [List.map_toArray, List.map_cons, List.map_nil]); first | done | rfl | (simp only [List.length_drop, List.length_take]; rfl)) ?_
                  with_reducible refine (bitset_Set_Count.calls kj5 _ _ t160 t241 _ ?side1 ?side2 A46.out).mono ?_
                  (case side1 => repeat (first | exact (Kd.V_reads' HO162.out).2.2 | (with_reducible refine Kd.C_alloc ?_ _) | (with_reducible refine Kd.C_drewN ?_ _) | (with_reducible refine Kd.C_drew ?_)))
                  (case side2 => exact (Kd.V_reads' HO162.out).2.1)
                  rintro e w121 ⟨rfl, hb⟩
                  refine ⟨_, rfl, ?_⟩
                  have n0_ := Aside0.mk (Kd.V_below (by (with_reducible repeat (first | apply Kd.V_alloc | apply Kd.V_drewN | apply Kd.V_drew)); exact HO162.out) hb); have n1_ := Aside0.mk (Kd.V_below (by (with_reducible repeat (first | apply Kd.V_alloc | apply Kd.V_drewN | apply Kd.V_drew)); exact HO166.out) hb); have n24_ := Aside0.mk (blk_below (g := gb163) (o := .cells #[.slice Ao54 t160.length co54] 26 (0, 0)) (by (with_reducible repeat (first | refine blk_drewN ?_ _ | refine blk_drew ?_ | refine blk_alloc ?_ _)); exact BK163.out) hb); have n25_ := Aside0.mk (blk_below (g := gb167) (o := .cells #[.slice Ao58 t164.length co58] 26 (0, 0)) (by (with_reducible repeat (first | refine blk_drewN ?_ _ | refine blk_drew ?_ | refine blk_alloc ?_ _)); exact BK167.out) hb); have n26_ := Aside0.mk (blk_below (g := gb171) (o := .cells #[.slice Ao63 t168.length co63] 26 (0, 0)) (by (with_reducible repeat (first | refine blk_drewN ?_ _ | refine blk_drew ?_ | refine blk_alloc ?_ _)); exact BK171.out) hb); have n27_ := Aside0.mk (below_step (by repeat (first | (with_reducible first | exact HB.out | apply below_alloc | apply pw_below_drewN | apply below_drew1 | refine below_set ?_ GE163.out | refine below_set ?_ GE167.out | refine below_set ?_ GE171.out) | exact HB.out)) hb); clear HO162; clear HO166; clear BK163; clear BK167; clear BK171; clear HB; have HO162 := n0_; have HO166 := n1_; have BK163 := n24_; have BK167 := n25_; have BK171 := n26_; have HB := n27_; clear n0_ n1_ n24_ n25_ n26_ n27_; (try clear hb); (try clear hb2); (try clear hk); (try clear hi)
                  refine hK.out _ _ ⟨(blk_cell BK163.out 0).trans rfl, (blk_cell BK167.out 0).trans rfl⟩ (fun hHeld => ?_)
                  clear hK K
                  refine norm_ (a' := ?_) ?_ ?_
                  rotate_left
                  · show Act.put _ (some 112) _ = _
                    simp only [Act.put, List.setIfInBounds_toArray, List.set_cons_zero, List.set_cons_succ, i64_w, i32_w]
                    rfl
                  refine one_ (i := 23) (N := some 114) #[true, true, true, true, true, true, true, true, true, true, true, true, true, true, true, true, true, true, true, true, true, true, true, true, false, false, false, false, false, false, false, false, false, false, false, false, false] rfl rfl (one_of HT_.out (by kernel_rfl)) (by decide) (fun K hK => ?_)
                  refine goes_ Tryd.func14 (by kernel_rfl) rfl #[.agg #[.slice Ao58 t164.length co58]] (by rfl) rfl rfl (by (try simp only [List.map_toArray, List.map_cons, List.map_nil]); first | done | rfl | (simp only [List.length_drop, List.length_take]; rfl)) ?_
                  with_reducible refine (bitset_Set_Count.calls kj5 _ _ t164 t242 _ ?side1 ?side2 A47.out).mono ?_
                  (case side1 => repeat (first | exact (Kd.V_reads' HO166.out).2.2 | (with_reducible refine Kd.C_alloc ?_ _) | (with_reducible refine Kd.C_drewN ?_ _) | (with_reducible refine Kd.C_drew ?_)))
                  (case side2 => exact (Kd.V_reads' HO166.out).2.1)
                  rintro e w122 ⟨rfl, hb⟩
                  refine ⟨_, rfl, ?_⟩
                  have n0_ := Aside0.mk (Kd.V_below (by (with_reducible repeat (first | apply Kd.V_alloc | apply Kd.V_drewN | apply Kd.V_drew)); exact HO162.out) hb); have n24_ := Aside0.mk (blk_below (g := gb163) (o := .cells #[.slice Ao54 t160.length co54] 26 (0, 0)) (by (with_reducible repeat (first | refine blk_drewN ?_ _ | refine blk_drew ?_ | refine blk_alloc ?_ _)); exact BK163.out) hb); have n25_ := Aside0.mk (blk_below (g := gb167) (o := .cells #[.slice Ao58 t164.length co58] 26 (0, 0)) (by (with_reducible repeat (first | refine blk_drewN ?_ _ | refine blk_drew ?_ | refine blk_alloc ?_ _)); exact BK167.out) hb); have n26_ := Aside0.mk (blk_below (g := gb171) (o := .cells #[.slice Ao63 t168.length co63] 26 (0, 0)) (by (with_reducible repeat (first | refine blk_drewN ?_ _ | refine blk_drew ?_ | refine blk_alloc ?_ _)); exact BK171.out) hb); have n27_ := Aside0.mk (below_step (by repeat (first | (with_reducible first | exact HB.out | apply below_alloc | apply pw_below_drewN | apply below_drew1 | refine below_set ?_ GE163.out | refine below_set ?_ GE167.out | refine below_set ?_ GE171.out) | exact HB.out)) hb); clear HO162; clear HO166; clear BK163; clear BK167; clear BK171; clear HB; have HO162 := n0_; have BK163 := n24_; have BK167 := n25_; have BK171 := n26_; have HB := n27_; clear n0_ n24_ n25_ n26_ n27_; (try clear hb); (try clear hb2); (try clear hk); (try clear hi)
                  refine hK.out _ _ ⟨(blk_cell BK163.out 0).trans rfl, (blk_cell BK167.out 0).trans rfl⟩ (fun hHeld => ?_)
                  clear hK K
                  refine norm_ (a' := ?_) ?_ ?_
                  rotate_left
                  · show Act.put _ (some 114) _ = _
                    simp only [Act.put, List.setIfInBounds_toArray, List.set_cons_zero, List.set_cons_succ, i64_w, i32_w]
                    rfl
                  refine pure_ (i := 24) (N := some 115) (v := ?_) (a' := ?_) #[true, true, true, true, true, true, true, true, true, true, true, true, true, true, true, true, true, true, true, true, true, true, true, true, true, false, false, false, false, false, false, false, false, false, false, false, false] rfl rfl (any_of HT_.out (by kernel_rfl)) (fun _ _ _ h => h) (Or.inl ⟨by rfl, ?_⟩) ?_ ?_
                  rotate_left
                  · intro w'
                    go_simp
                    with_reducible rfl
                  rotate_left
                  · simp only [Act.put, List.setIfInBounds_toArray, List.set_cons_zero, List.set_cons_succ, i64_w, i32_w]
                    rfl
                  refine pure_ (i := 25) (N := some 116) (v := ?_) (a' := ?_) #[true, true, true, true, true, true, true, true, true, true, true, true, true, true, true, true, true, true, true, true, true, true, true, true, true, true, false, false, false, false, false, false, false, false, false, false, false] rfl rfl (any_of HT_.out (by kernel_rfl)) (fun _ _ _ h => h) (Or.inl ⟨by rfl, ?_⟩) ?_ ?_
                  rotate_left
                  · intro w'
                    go_simp
                    with_reducible rfl
                  rotate_left
                  · simp only [Act.put, List.setIfInBounds_toArray, List.set_cons_zero, List.set_cons_succ, i64_w, i32_w]
                    rfl
                  refine pure_ (i := 26) (N := some 117) (v := ?_) (a' := ?_) #[true, true, true, true, true, true, true, true, true, true, true, true, true, true, true, true, true, true, true, true, true, true, true, true, true, true, true, false, false, false, false, false, false, false, false, false, false] rfl rfl (any_of HT_.out (by kernel_rfl)) (fun _ _ _ h => h) (Or.inl ⟨by rfl, ?_⟩) ?_ ?_
                  rotate_left
                  · intro w'
                    go_simp
                    with_reducible rfl
                  rotate_left
                  · simp only [Act.put, List.setIfInBounds_toArray, List.set_cons_zero, List.set_cons_succ, i64_w, i32_w]
                    rfl
                  refine pure_ (i := 27) (N := some 118) (v := ?_) (a' := ?_) #[true, true, true, true, true, true, true, true, true, true, true, true, true, true, true, true, true, true, true, true, true, true, true, true, true, true, true, true, false, false, false, false, false, false, false, false, false] rfl rfl (any_of HT_.out (by kernel_rfl)) (fun _ _ _ h => h) (Or.inl ⟨by rfl, ?_⟩) ?_ ?_
                  rotate_left
                  · intro w'
                    go_simp
                    with_reducible rfl
                  rotate_left
                  · simp only [Act.put, List.setIfInBounds_toArray, List.set_cons_zero, List.set_cons_succ, i64_w, i32_w]
                    rfl
                  refine pure_ (i := 29) (N := some 120) (v := ?_) (a' := ?_) #[true, true, true, true, true, true, true, true, true, true, true, true, true, true, true, true, true, true, true, true, true, true, true, true, true, true, true, true, false, true, false, false, false, false, false, false, false] rfl rfl (any_of HT_.out (by kernel_rfl)) (fun _ _ _ h => h) (Or.inl ⟨by rfl, ?_⟩) ?_ ?_
                  rotate_left
                  · intro w'
                    go_simp
                    with_reducible rfl
                  rotate_left
                  · simp only [Act.put, List.setIfInBounds_toArray, List.set_cons_zero, List.set_cons_succ, i64_w, i32_w]
                    rfl
                  refine take_ (i := 28) (N := some 119) (v := ?_) (a' := ?_) #[true, true, true, true, true, true, true, true, true, true, true, true, true, true, true, true, true, true, true, true, true, true, true, true, true, true, true, true, true, true, false, false, false, false, false, false, false] rfl rfl (take_ofW HT_.out HW_.out (by kernel_rfl)) (fun _ _ _ h => h) (Or.inl ⟨by rfl, ?_⟩) hHeld ?_ ?_
                  rotate_left
                  · rintro w' ⟨s0, s1⟩
                    go_simp
                    with_reducible rfl
                  rotate_left
                  · simp only [Act.put, List.setIfInBounds_toArray, List.set_cons_zero, List.set_cons_succ, i64_w, i32_w]
                    rfl
                  refine take_ (i := 31) (N := some 122) (v := ?_) (a' := ?_) #[true, true, true, true, true, true, true, true, true, true, true, true, true, true, true, true, true, true, true, true, true, true, true, true, true, true, true, true, true, true, false, true, false, false, false, false, false] rfl rfl (take_ofW HT_.out HW_.out (by kernel_rfl)) (fun _ _ _ h => h) (Or.inl ⟨by rfl, ?_⟩) hHeld ?_ ?_
                  rotate_left
                  · rintro w' ⟨s0, s1⟩
                    go_simp
                    with_reducible rfl
                  rotate_left
                  · simp only [Act.put, List.setIfInBounds_toArray, List.set_cons_zero, List.set_cons_succ, i64_w, i32_w]
                    rfl
                  refine one_ (i := 30) (N := some 121) #[true, true, true, true, true, true, true, true, true, true, true, true, true, true, true, true, true, true, true, true, true, true, true, true, true, true, true, true, true, true, true, true, false, false, false, false, false] rfl rfl (one_of HT_.out (by kernel_rfl)) (by decide) (fun K hK => ?_)
                  refine goes_ Tryd.func11 (by kernel_rfl) rfl #[.agg #[.slice Ao54 t160.length co54], .int .i64 a3] (by rfl) rfl rfl (by (try simp only [List.map_toArray, List.map_cons, List.map_nil]); first | done | rfl | (simp only [List.length_drop, List.length_take]; rfl)) ?_
                  with_reducible refine (bitset_Set_Not.calls _ _ t160 a3 t243 _ ?side1 ?side2 A49.out).mono ?_
                  (case side1 => repeat (first | exact (Kd.V_reads' HO162.out).2.2 | (with_reducible refine Kd.C_alloc ?_ _) | (with_reducible refine Kd.C_drewN ?_ _) | (with_reducible refine Kd.C_drew ?_)))
                  (case side2 => exact (Kd.V_reads' HO162.out).2.1)
                  rintro e w123 ⟨v244, rfl, ho0, hb⟩
                  refine ⟨_, rfl, ?_⟩
                  have n0_ := Aside0.mk (Kd.V_below (by (with_reducible repeat (first | apply Kd.V_alloc | apply Kd.V_drewN | apply Kd.V_drew)); exact HO162.out) hb); have n24_ := Aside0.mk (Kd.V_lower (Kd.V_mono (ok' := fun k_ => k_ ≠ gb163 ∧ k_ ≠ gb167 ∧ k_ ≠ gb171) ho0 (fun k_ hk_ => ⟨(Kd.freshB (g := gb163) (o := .cells #[.slice Ao54 t160.length co54] 26 (0, 0)) (by (with_reducible repeat (first | refine blk_drewN ?_ _ | refine blk_drew ?_ | refine blk_alloc ?_ _)); exact BK163.out) k_ hk_), (Kd.freshB (g := gb167) (o := .cells #[.slice Ao58 t164.length co58] 26 (0, 0)) (by (with_reducible repeat (first | refine blk_drewN ?_ _ | refine blk_drew ?_ | refine blk_alloc ?_ _)); exact BK167.out) k_ hk_), (Kd.freshB (g := gb171) (o := .cells #[.slice Ao63 t168.length co63] 26 (0, 0)) (by (with_reducible repeat (first | refine blk_drewN ?_ _ | refine blk_drew ?_ | refine blk_alloc ?_ _)); exact BK171.out) k_ hk_)⟩)) (below_size (by repeat (first | (with_reducible first | exact HB.out | apply below_alloc | apply pw_below_drewN | apply below_drew1 | refine below_set ?_ GE163.out | refine below_set ?_ GE167.out | refine below_set ?_ GE171.out) | exact HB.out)))); have n25_ := Aside0.mk (blk_below (g := gb163) (o := .cells #[.slice Ao54 t160.length co54] 26 (0, 0)) (by (with_reducible repeat (first | refine blk_drewN ?_ _ | refine blk_drew ?_ | refine blk_alloc ?_ _)); exact BK163.out) hb); have n26_ := Aside0.mk (blk_below (g := gb167) (o := .cells #[.slice Ao58 t164.length co58] 26 (0, 0)) (by (with_reducible repeat (first | refine blk_drewN ?_ _ | refine blk_drew ?_ | refine blk_alloc ?_ _)); exact BK167.out) hb); have n27_ := Aside0.mk (blk_below (g := gb171) (o := .cells #[.slice Ao63 t168.length co63] 26 (0, 0)) (by (with_reducible repeat (first | refine blk_drewN ?_ _ | refine blk_drew ?_ | refine blk_alloc ?_ _)); exact BK171.out) hb); have n28_ := Aside0.mk (below_step (by repeat (first | (with_reducible first | exact HB.out | apply below_alloc | apply pw_below_drewN | apply below_drew1 | refine below_set ?_ GE163.out | refine below_set ?_ GE167.out | refine below_set ?_ GE171.out) | exact HB.out)) hb); clear HO162; clear BK163; clear BK167; clear BK171; clear HB; have HO162 := n0_; have HO245 := n24_; have BK163 := n25_; have BK167 := n26_; have BK171 := n27_; have HB := n28_; clear n0_ n24_ n25_ n26_ n27_ n28_; (try clear hb); (try clear hb2); (try clear hk); (try clear hi); (try clear ho0)
                  obtain ⟨Ao124, co124, eo124⟩ := Kd.V_slice HO245.out
                  (first | subst eo124 | (injection eo124 with f1_ f2_ f3_; have f4_ := f1_.symm; have f5_ := f3_.symm; clear f1_ f2_ f3_; subst f4_; subst f5_))
                  refine hK.out _ _ ⟨(blk_cell BK163.out 0).trans rfl, (blk_cell BK167.out 0).trans rfl⟩ (fun hHeld => ?_)
                  clear hK K
                  refine norm_ (a' := ?_) ?_ ?_
                  rotate_left
                  · show Act.put _ (some 121) _ = _
                    simp only [Act.put, List.setIfInBounds_toArray, List.set_cons_zero, List.set_cons_succ, i64_w, i32_w]
                    rfl
                  refine one_ (i := 32) (N := some 123) #[true, true, true, true, true, true, true, true, true, true, true, true, true, true, true, true, true, true, true, true, true, true, true, true, true, true, true, true, true, true, true, true, true, false, false, false, false] rfl rfl (one_of HT_.out (by kernel_rfl)) (by decide) (fun K hK => ?_)
                  refine goes_ Tryd.func10 (by kernel_rfl) rfl #[.agg #[.slice Ao124 t243.length co124], .agg #[.slice Ao54 t160.length co54]] (by rfl) rfl rfl (by (try simp only [List.map_toArray, List.map_cons, List.map_nil]); first | done | rfl | (simp only [List.length_drop, List.length_take]; rfl)) ?_
                  with_reducible refine (bitset_Set_And.calls _ _ t243 _ _ t160 t246 _ ?side1 ?side2 ?side3 ?side4 A50.out).mono ?_
                  (case side1 => repeat (first | exact (Kd.V_reads' HO245.out).2.2 | (with_reducible refine Kd.C_alloc ?_ _) | (with_reducible refine Kd.C_drewN ?_ _) | (with_reducible refine Kd.C_drew ?_)))
                  (case side2 => exact (Kd.V_reads' HO245.out).2.1)
                  (case side3 => repeat (first | exact (Kd.V_reads' HO162.out).2.2 | (with_reducible refine Kd.C_alloc ?_ _) | (with_reducible refine Kd.C_drewN ?_ _) | (with_reducible refine Kd.C_drew ?_)))
                  (case side4 => exact (Kd.V_reads' HO162.out).2.1)
                  rintro e w125 ⟨v247, rfl, ho0, hb⟩
                  refine ⟨_, rfl, ?_⟩
                  have n25_ := Aside0.mk (Kd.V_lower (Kd.V_mono (ok' := fun k_ => k_ ≠ gb163 ∧ k_ ≠ gb167 ∧ k_ ≠ gb171) ho0 (fun k_ hk_ => ⟨(Kd.freshB (g := gb163) (o := .cells #[.slice Ao54 t160.length co54] 26 (0, 0)) (by (with_reducible repeat (first | refine blk_drewN ?_ _ | refine blk_drew ?_ | refine blk_alloc ?_ _)); exact BK163.out) k_ hk_), (Kd.freshB (g := gb167) (o := .cells #[.slice Ao58 t164.length co58] 26 (0, 0)) (by (with_reducible repeat (first | refine blk_drewN ?_ _ | refine blk_drew ?_ | refine blk_alloc ?_ _)); exact BK167.out) k_ hk_), (Kd.freshB (g := gb171) (o := .cells #[.slice Ao63 t168.length co63] 26 (0, 0)) (by (with_reducible repeat (first | refine blk_drewN ?_ _ | refine blk_drew ?_ | refine blk_alloc ?_ _)); exact BK171.out) k_ hk_)⟩)) (below_size (by repeat (first | (with_reducible first | exact HB.out | apply below_alloc | apply pw_below_drewN | apply below_drew1 | refine below_set ?_ GE163.out | refine below_set ?_ GE167.out | refine below_set ?_ GE171.out) | exact HB.out)))); have n26_ := Aside0.mk (blk_below (g := gb163) (o := .cells #[.slice Ao54 t160.length co54] 26 (0, 0)) (by (with_reducible repeat (first | refine blk_drewN ?_ _ | refine blk_drew ?_ | refine blk_alloc ?_ _)); exact BK163.out) hb); have n27_ := Aside0.mk (blk_below (g := gb167) (o := .cells #[.slice Ao58 t164.length co58] 26 (0, 0)) (by (with_reducible repeat (first | refine blk_drewN ?_ _ | refine blk_drew ?_ | refine blk_alloc ?_ _)); exact BK167.out) hb); have n29_ := Aside0.mk (below_step (by repeat (first | (with_reducible first | exact HB.out | apply below_alloc | apply pw_below_drewN | apply below_drew1 | refine below_set ?_ GE163.out | refine below_set ?_ GE167.out | refine below_set ?_ GE171.out) | exact HB.out)) hb); clear HO162; clear HO245; clear BK163; clear BK167; clear BK171; clear HB; have HO248 := n25_; have BK163 := n26_; have BK167 := n27_; have HB := n29_; clear n25_ n26_ n27_ n29_; (try clear hb); (try clear hb2); (try clear hk); (try clear hi); (try clear ho0)
                  obtain ⟨Ao126, co126, eo126⟩ := Kd.V_slice HO248.out
                  (first | subst eo126 | (injection eo126 with f1_ f2_ f3_; have f4_ := f1_.symm; have f5_ := f3_.symm; clear f1_ f2_ f3_; subst f4_; subst f5_))
                  refine hK.out _ _ ⟨(blk_cell BK163.out 0).trans rfl, (blk_cell BK167.out 0).trans rfl⟩ (fun hHeld => ?_)
                  clear hK K
                  refine norm_ (a' := ?_) ?_ ?_
                  rotate_left
                  · show Act.put _ (some 123) _ = _
                    simp only [Act.put, List.setIfInBounds_toArray, List.set_cons_zero, List.set_cons_succ, i64_w, i32_w]
                    rfl
                  refine one_ (i := 33) (N := some 124) #[true, true, true, true, true, true, true, true, true, true, true, true, true, true, true, true, true, true, true, true, true, true, true, true, true, true, true, true, true, true, true, true, true, true, false, false, false] rfl rfl (one_of HT_.out (by kernel_rfl)) (by decide) (fun K hK => ?_)
                  refine goes_ Tryd.func14 (by kernel_rfl) rfl #[.agg #[.slice Ao126 t246.length co126]] (by rfl) rfl rfl (by (try simp only [List.map_toArray, List.map_cons, List.map_nil]); first | done | rfl | (simp only [List.length_drop, List.length_take]; rfl)) ?_
                  with_reducible refine (bitset_Set_Count.calls kj5 _ _ t246 t249 _ ?side1 ?side2 A51.out).mono ?_
                  (case side1 => repeat (first | exact (Kd.V_reads' HO248.out).2.2 | (with_reducible refine Kd.C_alloc ?_ _) | (with_reducible refine Kd.C_drewN ?_ _) | (with_reducible refine Kd.C_drew ?_)))
                  (case side2 => exact (Kd.V_reads' HO248.out).2.1)
                  rintro e w127 ⟨rfl, hb⟩
                  refine ⟨_, rfl, ?_⟩
                  have n26_ := Aside0.mk (blk_below (g := gb163) (o := .cells #[.slice Ao54 t160.length co54] 26 (0, 0)) (by (with_reducible repeat (first | refine blk_drewN ?_ _ | refine blk_drew ?_ | refine blk_alloc ?_ _)); exact BK163.out) hb); have n27_ := Aside0.mk (blk_below (g := gb167) (o := .cells #[.slice Ao58 t164.length co58] 26 (0, 0)) (by (with_reducible repeat (first | refine blk_drewN ?_ _ | refine blk_drew ?_ | refine blk_alloc ?_ _)); exact BK167.out) hb); have n29_ := Aside0.mk (below_step (by repeat (first | (with_reducible first | exact HB.out | apply below_alloc | apply pw_below_drewN | apply below_drew1 | refine below_set ?_ GE163.out | refine below_set ?_ GE167.out | refine below_set ?_ GE171.out) | exact HB.out)) hb); clear HO248; clear BK163; clear BK167; clear HB; have BK163 := n26_; have BK167 := n27_; have HB := n29_; clear n26_ n27_ n29_; (try clear hb); (try clear hb2); (try clear hk); (try clear hi)
                  refine hK.out _ _ ⟨(blk_cell BK163.out 0).trans rfl, (blk_cell BK167.out 0).trans rfl⟩ (fun hHeld => ?_)
                  clear hK K
                  refine norm_ (a' := ?_) ?_ ?_
                  rotate_left
                  · show Act.put _ (some 124) _ = _
                    simp only [Act.put, List.setIfInBounds_toArray, List.set_cons_zero, List.set_cons_succ, i64_w, i32_w]
                    rfl
                  refine pure_ (i := 34) (N := some 125) (v := ?_) (a' := ?_) #[true, true, true, true, true, true, true, true, true, true, true, true, true, true, true, true, true, true, true, true, true, true, true, true, true, true, true, true, true, true, true, true, true, true, true, false, false] rfl rfl (any_of HT_.out (by kernel_rfl)) (fun _ _ _ h => h) (Or.inl ⟨by rfl, ?_⟩) ?_ ?_
                  rotate_left
                  · intro w'
                    go_simp
                    with_reducible rfl
                  rotate_left
                  · simp only [Act.put, List.setIfInBounds_toArray, List.set_cons_zero, List.set_cons_succ, i64_w, i32_w]
                    rfl
                  refine pure_ (i := 35) (N := some 126) (v := ?_) (a' := ?_) #[true, true, true, true, true, true, true, true, true, true, true, true, true, true, true, true, true, true, true, true, true, true, true, true, true, true, true, true, true, true, true, true, true, true, true, true, false] rfl rfl (any_of HT_.out (by kernel_rfl)) (fun _ _ _ h => h) (Or.inl ⟨by rfl, ?_⟩) ?_ ?_
                  rotate_left
                  · intro w'
                    go_simp
                    with_reducible rfl
                  rotate_left
                  · simp only [Act.put, List.setIfInBounds_toArray, List.set_cons_zero, List.set_cons_succ, i64_w, i32_w]
                    rfl
                  refine pure_ (i := 36) (N := some 8) (v := ?_) (a' := ?_) #[true, true, true, true, true, true, true, true, true, true, true, true, true, true, true, true, true, true, true, true, true, true, true, true, true, true, true, true, true, true, true, true, true, true, true, true, true] rfl rfl (any_of HT_.out (by kernel_rfl)) (fun _ _ _ h => h) (Or.inl ⟨by rfl, ?_⟩) ?_ ?_
                  rotate_left
                  · intro w'
                    go_simp
                    with_reducible rfl
                  rotate_left
                  · simp only [Act.put, List.setIfInBounds_toArray, List.set_cons_zero, List.set_cons_succ, i64_w, i32_w]
                    rfl
                  refine done_ (done_of HT_.out (by kernel_rfl)) ?_
                  try go_wp2
                  go_ret
                  exact ⟨by first | rfl | (simp [errW_none, errW_some] <;> rfl) | (refine congrArg (fun b_ : Bool => Ending.returned (Value.bool b_)) ?_; simp; done) | (simp [*, errW_none, errW_some] <;> rfl), by repeat (first | (with_reducible first | exact HB.out | apply below_alloc | apply pw_below_drewN | apply below_drew1 | refine below_set ?_ GE163.out | refine below_set ?_ GE167.out | refine below_set ?_ GE171.out) | exact HB.out)⟩
                · rw [if_neg c48] at H
                  have c48b0 : ((wrap64 (t236 + t240)) == (wrap64 (t241 + t242))) = false := beq_eq_false_iff_ne.mpr c48
                  have c48b1 : ((wrap64 (t236 + t240)) != (wrap64 (t241 + t242))) = true := bne_iff_ne.mpr c48
                  exact absurd (HTRUE.out.symm.trans (Option.some.inj H).symm) (by decide)
              · replace c41 := Bool.eq_false_iff.mpr c41
                subst c41
                have H1 : (some false) = some r := by rw [if_neg (show ¬ (false = true) by decide)] at H; exact H
                clear H
                have H := H1
                clear H1
                exact absurd (HTRUE.out.symm.trans (Option.some.inj H).symm) (by decide)
            · replace c40 := Bool.eq_false_iff.mpr c40
              subst c40
              have H1 : (some false) = some r := by rw [if_neg (show ¬ (false = true) by decide)] at H; exact H
              clear H
              have H := H1
              clear H1
              exact absurd (HTRUE.out.symm.trans (Option.some.inj H).symm) (by decide)
          · replace c39 := Bool.eq_false_iff.mpr c39
            subst c39
            have H1 : (some false) = some r := by rw [if_neg (show ¬ (false = true) by decide)] at H; exact H
            clear H
            have H := H1
            clear H1
            exact absurd (HTRUE.out.symm.trans (Option.some.inj H).symm) (by decide)
        · replace c38 := Bool.eq_false_iff.mpr c38
          subst c38
          have H1 : (some false) = some r := by rw [if_neg (show ¬ (false = true) by decide)] at H; exact H
          clear H
          have H := H1
          clear H1
          exact absurd (HTRUE.out.symm.trans (Option.some.inj H).symm) (by decide)

/-- THE ONE PURE STATEMENT of winnowerlaw09_BitsetLaws: yours. -/
def winnowerlaw09_BitsetLaws.Pure : Prop := ∀ (l0 : List Int) (l1 : List Int) (l2 : List Int) (a3 : Int), l0.length ≤ maxLen → l0.length * 8 ≤ 140737488351232 → (∀ x ∈ l0, (Lit.int .i64 x).wf = true) → l1.length ≤ maxLen → l1.length * 8 ≤ 140737488351232 → (∀ x ∈ l1, (Lit.int .i64 x).wf = true) → l2.length ≤ maxLen → l2.length * 8 ≤ 140737488351232 → (∀ x ∈ l2, (Lit.int .i64 x).wf = true) → (Lit.int .i64 a3).wf = true → ∃ k, winnowerlaw09_BitsetLaws.f k l0 l1 l2 a3 = some true
theorem winnowerlaw09_BitsetLaws.walk (P : winnowerlaw09_BitsetLaws.Pure) (a0 : Option Addr) (len0 cap0 : Nat) (z0 : List Int) (a1 : Option Addr) (len1 cap1 : Nat) (z1 : List Int) (a2 : Option Addr) (len2 cap2 : Nat) (z2 : List Int) (a3 : Int) (w : World) (w0 : (a0 = none ∧ len0 = 0 ∧ cap0 = 0 ∧ z0 = []) ∨ ∃ x, a0 = some x ∧ len0 ≤ cap0 ∧ cap0 ≤ maxLen ∧ z0.length = cap0 ∧ (∀ i, i < z0.length → w.cell? (x.add i) = some (.int .i64 (z0.getD i 0))) ∧ ∀ n ∈ z0, (Lit.int .i64 n).wf = true) (y0 : len0 * 8 ≤ 140737488351232) (w1 : (a1 = none ∧ len1 = 0 ∧ cap1 = 0 ∧ z1 = []) ∨ ∃ x, a1 = some x ∧ len1 ≤ cap1 ∧ cap1 ≤ maxLen ∧ z1.length = cap1 ∧ (∀ i, i < z1.length → w.cell? (x.add i) = some (.int .i64 (z1.getD i 0))) ∧ ∀ n ∈ z1, (Lit.int .i64 n).wf = true) (y1 : len1 * 8 ≤ 140737488351232) (w2 : (a2 = none ∧ len2 = 0 ∧ cap2 = 0 ∧ z2 = []) ∨ ∃ x, a2 = some x ∧ len2 ≤ cap2 ∧ cap2 ≤ maxLen ∧ z2.length = cap2 ∧ (∀ i, i < z2.length → w.cell? (x.add i) = some (.int .i64 (z2.getD i 0))) ∧ ∀ n ∈ z2, (Lit.int .i64 n).wf = true) (y2 : len2 * 8 ≤ 140737488351232) (w3 : (Lit.int .i64 a3).wf = true) (hG : Globs w) :
    Calls Tryd.prog 3 #[.slice a0 len0 cap0, .slice a1 len1 cap1, .slice a2 len2 cap2, .int .i64 a3] w fun e w' => e = .returned (.bool true) ∧ Below w.heap.size w w' := by
  obtain ⟨l0, rfl, hr0, hm0, hw0, hc0⟩ := ReadsInt.ofRowC w0
  obtain ⟨l1, rfl, hr1, hm1, hw1, hc1⟩ := ReadsInt.ofRowC w1
  obtain ⟨l2, rfl, hr2, hm2, hw2, hc2⟩ := ReadsInt.ofRowC w2
  obtain ⟨k, h⟩ := P l0 l1 l2 a3 hm0 y0 hw0 hm1 y1 hw1 hm2 y2 hw2 w3
  refine (winnowerlaw09_BitsetLaws.calls k _ _ l0 _ _ l1 _ _ l2 a3 true w (Kd.C_of_reads (d := (0 : Int)) (h1 := fun _ => rfl) hr0) hc0 (Kd.C_of_reads (d := (0 : Int)) (h1 := fun _ => rfl) hr1) hc1 (Kd.C_of_reads (d := (0 : Int)) (h1 := fun _ => rfl) hr2) hc2 hG rfl h).mono ?_
  rintro e w' ⟨rfl, hd⟩
  exact ⟨rfl, hd⟩

end Go.Proofs.YteaiaeejdcmefaaDoor.S
