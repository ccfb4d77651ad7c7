/- The machine side of laws, written by wip/tools/myprint.py (the printer's way, with functions proved by hand put in); Lean checks it. -/
import Derived.Test.YteefchdfdgfaaaaDoorJ1
import Derived.Test.YteefchdfdgfaaaaDoorJ3
import Derived.Test.YteefchdfdgfaaaaDoorQx12
import Derived.Test.YteefchdfdgfaaaaDoorJ4
import Derived.Test.YteefchdfdgfaaaaDoorQx18
import Derived.Test.YteefchdfdgfaaaaDoorJ5
namespace Go.Proofs.YteefchdfdgfaaaaDoor.Q
open Go.RowKit Go.Proofs.YteefchdfdgfaaaaDoorW.PrintWords Go.Proofs.YteefchdfdgfaaaaDoorW.PrintLast Go.Proofs.YteefchdfdgfaaaaDoorW.PrintMore
attribute [local go_sem] max2_int min2_int max_two min_two max_three min_three max_four min_four   -- for this text's walks alone
set_option linter.unusedVariables false
set_option linter.unusedSimpArgs false

/-! ### winnowerlaw07_SchemaOnly: function 6 -/
mutual
def winnowerlaw07_SchemaOnly.j0 : Nat → List Int → Int → Bool → Bool → List (S48) → Int → Int → Int → Int → Option (Bool)
  | 0, _, _, _, _, _, _, _, _, _ => none
  | k + 1, x1, x2, x7, x29, x430000, x430001, x430002, x430003, x430004 => if x29 = true then (some x7) else ((schema_Decode.f x430000 x430001 x430002 x430003 x430004 x1).bind fun bt432 => (if bt432.2 = 0 then ((schema_Encode.f k x430000 x430001 x430002 x430003 x430004 bt432.1).bind fun bt437 => ((winnowerref01_Same.f x1 bt437.1).bind fun t441 => (if x2 ≥ 0 then (winnowerlaw07_SchemaOnly.j1 k x1 x2 bt432.1 bt437.2 t441 (decide (x2 < (x1.length : Int))) x430000 x430001 x430002 x430003 x430004) else (winnowerlaw07_SchemaOnly.j1 k x1 x2 bt432.1 bt437.2 t441 false x430000 x430001 x430002 x430003 x430004)))) else (if (bt432.1.length : Int) = 0 then ((schema_May.f x430000 x430001 x430002 x430003 x430004).bind fun t436 => (some ((bt432.2 == 1) == (!t436)))) else (some false))))
def winnowerlaw07_SchemaOnly.j1 : Nat → List Int → Int → List (S46) → Int → Bool → Bool → List (S48) → Int → Int → Int → Int → Option (Bool)
  | 0, _, _, _, _, _, _, _, _, _, _, _ => none
  | k + 1, x1, x2, x9, x12, x13, x66, x430000, x430001, x430002, x430003, x430004 => if x66 = true then (if 0 ≤ x2 then (if x2 ≤ (x1.length : Int) then ((schema_Decode.f x430000 x430001 x430002 x430003 x430004 (x1.take (x2 : Int).toNat)).bind fun bt443 => (if bt443.2 = 0 then (some false) else (if x13 = true then (if x12 = 0 then ((schema_Fits.f k x430000 x430001 x430002 x430003 x430004 x9).bind fun t447 => (some t447)) else (some false)) else (some false)))) else (none)) else (none)) else (if x13 = true then (if x12 = 0 then ((schema_Fits.f k x430000 x430001 x430002 x430003 x430004 x9).bind fun t448 => (some t448)) else (some false)) else (some false))
end
def winnowerlaw07_SchemaOnly.f (k : Nat) (l0_0 : List (S48)) (a0_1 : Int) (a0_2 : Int) (a0_3 : Int) (a0_4 : Int) (l1 : List Int) (a2 : Int) : Option (Bool) := (winnowerlaw07_awake.f).bind fun t430 => ((winnowerref07_Few.f k l0_0 a0_1 a0_2 a0_3 a0_4).bind fun t431 => (if t430 = true then (if t431 = true then (winnowerlaw07_SchemaOnly.j0 k l1 a2 t430 (decide ((l1.length : Int) > 1000)) l0_0 a0_1 a0_2 a0_3 a0_4) else (winnowerlaw07_SchemaOnly.j0 k l1 a2 t430 true l0_0 a0_1 a0_2 a0_3 a0_4)) else (winnowerlaw07_SchemaOnly.j0 k l1 a2 t430 true l0_0 a0_1 a0_2 a0_3 a0_4)))
def winnowerlaw07_SchemaOnly.T11 : Bool × List (List Nat × List Nat) := (true, [([], []), ([], []), ([], []), ([1, 2], [1, 2]), ([0, 3], [0, 3]), ([4], [4]), ([5], [5]), ([5], [5]), ([6, 4, 0, 1, 2, 3, 4, 5, 6], [6]), ([7, 8, 0, 1, 2, 3, 4, 5, 6, 7, 8], [7])])
def winnowerlaw07_SchemaOnly.B11 : List Nat := [0, 0, 0, 6, 15, 31, 63, 63, 127, 511]
theorem winnowerlaw07_SchemaOnly.tab11 : rtab .any (opsOf Tryd.f6 11) = winnowerlaw07_SchemaOnly.T11 := by kernel_rfl
theorem winnowerlaw07_SchemaOnly.bits11 : waitsOk winnowerlaw07_SchemaOnly.T11.2 winnowerlaw07_SchemaOnly.B11 = true := by kernel_rfl
set_option maxHeartbeats 8000000 in
set_option maxRecDepth 100000 in
theorem winnowerlaw07_SchemaOnly.calls (k : Nat) (A0_0 : Option Addr) (c0_0 : Nat) (l0_0 : List (S48)) (a0_1 : Int) (a0_2 : Int) (a0_3 : Int) (a0_4 : Int) (A1 : Option Addr) (c1 : Nat) (l1 : List Int) (a2 : Int) (r : Bool) (w : World) (hr0_0 : Kd.C k48 w A0_0 l0_0.length l0_0) (hc0_0 : l0_0.length ≤ c0_0) (hr1 : Kd.C (Kd.int .u8) w A1 l1.length l1) (hc1 : l1.length ≤ c1) (hG : Globs w) (hT_ : r = true) (h : winnowerlaw07_SchemaOnly.f k l0_0 a0_1 a0_2 a0_3 a0_4 l1 a2 = some r) :
    Calls Tryd.prog 6 #[.agg #[.slice A0_0 l0_0.length c0_0, .int .i64 a0_1, .int .i64 a0_2, .int .i64 a0_3, .int .i64 a0_4], .slice A1 l1.length c1, .int .i64 a2] w fun e w' => e = .returned (.bool r) ∧ Below w.heap.size w w' := by
  have hu24 := Tryd.underlying24
  have HR0_0 := Aside0.mk hr0_0
  have HC0_0 := Aside0.mk hc0_0
  clear hr0_0 hc0_0
  have HR1 := Aside0.mk hr1
  have HC1 := Aside0.mk hc1
  clear hr1 hc1
  have HGL := Aside0.mk hG
  clear hG
  have HTRUE := Aside0.mk hT_
  clear hT_
  have HB := Aside0.mk (Below.refl w.heap.size w)
  have H : ((winnowerlaw07_awake.f).bind fun t430 => ((winnowerref07_Few.f k l0_0 a0_1 a0_2 a0_3 a0_4).bind fun t431 => (if t430 = true then (if t431 = true then (winnowerlaw07_SchemaOnly.j0 k l1 a2 t430 (decide ((l1.length : Int) > 1000)) l0_0 a0_1 a0_2 a0_3 a0_4) else (winnowerlaw07_SchemaOnly.j0 k l1 a2 t430 true l0_0 a0_1 a0_2 a0_3 a0_4)) else (winnowerlaw07_SchemaOnly.j0 k l1 a2 t430 true l0_0 a0_1 a0_2 a0_3 a0_4)))) = some r := h
  clear h
  replace H := Option.bind_eq_some_iff.mp H
  obtain ⟨t430, A40, H⟩ := H
  replace H : ((winnowerref07_Few.f k l0_0 a0_1 a0_2 a0_3 a0_4).bind fun t431 => (if t430 = true then (if t431 = true then (winnowerlaw07_SchemaOnly.j0 k l1 a2 t430 (decide ((l1.length : Int) > 1000)) l0_0 a0_1 a0_2 a0_3 a0_4) else (winnowerlaw07_SchemaOnly.j0 k l1 a2 t430 true l0_0 a0_1 a0_2 a0_3 a0_4)) else (winnowerlaw07_SchemaOnly.j0 k l1 a2 t430 true l0_0 a0_1 a0_2 a0_3 a0_4))) = some r := H
  have A4 := Aside0.mk A40
  clear A40
  replace H := Option.bind_eq_some_iff.mp H
  obtain ⟨t431, A50, H⟩ := H
  replace H : (if t430 = true then (if t431 = true then (winnowerlaw07_SchemaOnly.j0 k l1 a2 t430 (decide ((l1.length : Int) > 1000)) l0_0 a0_1 a0_2 a0_3 a0_4) else (winnowerlaw07_SchemaOnly.j0 k l1 a2 t430 true l0_0 a0_1 a0_2 a0_3 a0_4)) else (winnowerlaw07_SchemaOnly.j0 k l1 a2 t430 true l0_0 a0_1 a0_2 a0_3 a0_4)) = some r := H
  have A5 := Aside0.mk A50
  clear A50
  have HC6 := Aside0.mk H
  clear H
  go_enter Tryd.func6, Tryd.ntmps6
  go_upto_region 3 with (first | ((with_reducible refine gate_dst (N := 3) rfl ?_); (try (refine gate_guard (by rfl) ?_; dsimp only)); refine box_event ?hg (N := 3) ?hd (cs := #[.slice A0_0 l0_0.length c0_0, .int .i64 a0_1, .int .i64 a0_2, .int .i64 a0_3, .int .i64 a0_4]) (t := 24) ?hr ?_; (case hd => rfl); (case hg => rfl); (case hr => first | (go_simp; done) | (go_simp; rfl)); intro gb429 hg w7 hbox hb; have n0_ := Aside0.mk (below_step (by repeat (first | (with_reducible first | exact HB.out | apply below_alloc | apply pw_below_drewN | apply below_drew1) | exact HB.out)) hb); have n1_ := Aside0.mk (hbox); have n2_ := Aside0.mk ((by rw [hg]; exact (below_size (by repeat (first | (with_reducible first | exact HB.out | apply below_alloc | apply pw_below_drewN | apply below_drew1) | exact HB.out))) : w.heap.size ≤ gb429)); have n3_ := Aside0.mk ((by rw [hg]; exact (below_size (by repeat (first | (with_reducible first | exact HB.out | apply below_alloc | apply pw_below_drewN | apply below_drew1) | exact HB.out))) : w.heap.size ≤ gb429)); clear HB; have HB := n0_; have BK429 := n1_; have GW429 := n2_; have GE429 := n3_; clear n0_ n1_ n2_ n3_; clear hb hbox hg) | ((with_reducible refine gate_callee (f := 8) rfl ?_); refine goesL_ (some 16) rfl rfl Tryd.func8 (by kernel_rfl) rfl #[] rfl (by (try simp only [List.map_toArray, List.map_cons, List.map_nil]); first | done | rfl | (simp only [List.length_drop, List.length_take]; rfl)) ?_; (with_reducible refine (winnowerlaw07_awake.calls  t430 _ ?side1 A4.out).mono ?_); (case side1 => exact globs_below HGL.out (by repeat (first | (with_reducible first | exact HB.out | apply below_alloc | apply pw_below_drewN | apply below_drew1 | refine below_set ?_ GE429.out) | exact HB.out))); rintro e w8 ⟨rfl, hb⟩; refine ⟨_, rfl, ?_⟩; have n0_ := Aside0.mk (blk_below (g := gb429) (o := .cells #[.slice A0_0 l0_0.length c0_0, .int .i64 a0_1, .int .i64 a0_2, .int .i64 a0_3, .int .i64 a0_4] 24 (0, 0)) (by (with_reducible repeat (first | refine blk_drewN ?_ _ | refine blk_drew ?_ | refine blk_alloc ?_ _)); exact BK429.out) hb); have n1_ := Aside0.mk (below_step (by repeat (first | (with_reducible first | exact HB.out | apply below_alloc | apply pw_below_drewN | apply below_drew1 | refine below_set ?_ GE429.out) | exact HB.out)) hb); clear BK429; clear HB; have BK429 := n0_; have HB := n1_; clear n0_ n1_; (try clear hb); (try clear hb2); (try clear hk); (try clear hi); have hcz9_0 : w8.cell? ⟨gb429, 0, none⟩ = some (.slice A0_0 l0_0.length c0_0) := (blk_cell BK429.out 0).trans rfl; have hcz9_1 : w8.cell? ⟨gb429, 1, none⟩ = some (.int .i64 a0_1) := (blk_cell BK429.out 1).trans rfl; have hcz9_2 : w8.cell? ⟨gb429, 2, none⟩ = some (.int .i64 a0_2) := (blk_cell BK429.out 2).trans rfl; have hcz9_3 : w8.cell? ⟨gb429, 3, none⟩ = some (.int .i64 a0_3) := (blk_cell BK429.out 3).trans rfl; have hcz9_4 : w8.cell? ⟨gb429, 4, none⟩ = some (.int .i64 a0_4) := (blk_cell BK429.out 4).trans rfl; have hfz9_0 := blk_frozen BK429.out 0; have hfz9_1 := blk_frozen BK429.out 1; have hfz9_2 := blk_frozen BK429.out 2; have hfz9_3 := blk_frozen BK429.out 3; have hfz9_4 := blk_frozen BK429.out 4) | ((with_reducible refine gate_callee (f := 9) rfl ?_); refine goesL_ (some 18) rfl rfl Tryd.func9 (by kernel_rfl) rfl #[.agg #[.slice A0_0 l0_0.length c0_0, .int .i64 a0_1, .int .i64 a0_2, .int .i64 a0_3, .int .i64 a0_4]] rfl (by (try simp only [List.map_toArray, List.map_cons, List.map_nil]); first | done | rfl | (simp only [List.length_drop, List.length_take]; rfl)) ?_; (with_reducible refine (winnowerref07_Few.calls k _ _ l0_0 a0_1 a0_2 a0_3 a0_4 t431 _ ?side1 ?side2 A5.out).mono ?_); (case side1 => repeat (first | exact (Kd.C_below HR0_0.out HB.out) | (with_reducible refine Kd.C_alloc ?_ _) | (with_reducible refine Kd.C_drewN ?_ _) | (with_reducible refine Kd.C_drew ?_))); (case side2 => exact HC0_0.out); rintro e w10 ⟨rfl, hb⟩; refine ⟨_, rfl, ?_⟩; have n0_ := Aside0.mk (blk_below (g := gb429) (o := .cells #[.slice A0_0 l0_0.length c0_0, .int .i64 a0_1, .int .i64 a0_2, .int .i64 a0_3, .int .i64 a0_4] 24 (0, 0)) (by (with_reducible repeat (first | refine blk_drewN ?_ _ | refine blk_drew ?_ | refine blk_alloc ?_ _)); exact BK429.out) hb); have n1_ := Aside0.mk (below_step (by repeat (first | (with_reducible first | exact HB.out | apply below_alloc | apply pw_below_drewN | apply below_drew1 | refine below_set ?_ GE429.out) | exact HB.out)) hb); clear BK429; clear HB; have BK429 := n0_; have HB := n1_; clear n0_ n1_; (try clear hb); (try clear hb2); (try clear hk); (try clear hi)))
  (try simp only [Act.put, List.setIfInBounds_toArray, List.set_cons_zero, List.set_cons_succ])
  go_cut [29] (fun v29 wc => ∃ (kq : Nat) (x29_5 : Bool), v29 = .bool x29_5 ∧ Aside0 (winnowerlaw07_SchemaOnly.j0 kq l1 a2 t430 x29_5 l0_0 a0_1 a0_2 a0_3 a0_4 = some r) ∧ Aside0 (kq ≤ k) ∧ Aside0 (wc.heap[gb429]? = some (.cells #[(.slice A0_0 l0_0.length c0_0), .int .i64 a0_1, .int .i64 a0_2, .int .i64 a0_3, .int .i64 a0_4] 24 (0, 0))) ∧ Aside0 (Below w.heap.size w wc))
  case first =>
    have H := HC6.out
    clear HC6
    by_cases c11 : t430 = true
    · subst c11
      have H1 : (if t431 = true then (winnowerlaw07_SchemaOnly.j0 k l1 a2 true (decide ((l1.length : Int) > 1000)) l0_0 a0_1 a0_2 a0_3 a0_4) else (winnowerlaw07_SchemaOnly.j0 k l1 a2 true true l0_0 a0_1 a0_2 a0_3 a0_4)) = some r := by rw [if_pos rfl] at H; exact H
      clear H
      have H := H1
      clear H1
      by_cases c12 : t431 = true
      · subst c12
        have H1 : (winnowerlaw07_SchemaOnly.j0 k l1 a2 true (decide ((l1.length : Int) > 1000)) l0_0 a0_1 a0_2 a0_3 a0_4) = some r := by rw [if_pos rfl] at H; exact H
        clear H
        have H := H1
        clear H1
        have H' := Aside0.mk H
        clear H
        go_wp2
        go_meet
        case rel => exact ⟨_, (decide ((l1.length : Int) > 1000)), (by first | rfl | (simp; done) | (simp [*]; done)), H', ⟨by first | omega | exact Nat.le_refl _⟩, ⟨by (with_reducible repeat (first | refine blk_drewN ?_ _ | refine blk_drew ?_ | refine blk_alloc ?_ _)); exact BK429.out⟩, ⟨by repeat (first | (with_reducible first | exact HB.out | apply below_alloc | apply pw_below_drewN | apply below_drew1 | refine below_set ?_ GE429.out) | exact HB.out)⟩⟩
      · replace c12 := Bool.eq_false_iff.mpr c12
        subst c12
        have H1 : (winnowerlaw07_SchemaOnly.j0 k l1 a2 true true l0_0 a0_1 a0_2 a0_3 a0_4) = some r := by rw [if_neg (show ¬ (false = true) by decide)] at H; exact H
        clear H
        have H := H1
        clear H1
        have H' := Aside0.mk H
        clear H
        go_wp2
        go_meet
        case rel => exact ⟨_, (true), (by first | rfl | (simp; done) | (simp [*]; done)), H', ⟨by first | omega | exact Nat.le_refl _⟩, ⟨by (with_reducible repeat (first | refine blk_drewN ?_ _ | refine blk_drew ?_ | refine blk_alloc ?_ _)); exact BK429.out⟩, ⟨by repeat (first | (with_reducible first | exact HB.out | apply below_alloc | apply pw_below_drewN | apply below_drew1 | refine below_set ?_ GE429.out) | exact HB.out)⟩⟩
    · replace c11 := Bool.eq_false_iff.mpr c11
      subst c11
      have H1 : (winnowerlaw07_SchemaOnly.j0 k l1 a2 false true l0_0 a0_1 a0_2 a0_3 a0_4) = some r := by rw [if_neg (show ¬ (false = true) by decide)] at H; exact H
      clear H
      have H := H1
      clear H1
      have H' := Aside0.mk H
      clear H
      go_wp2
      go_meet
      case rel => exact ⟨_, (true), (by first | rfl | (simp; done) | (simp [*]; done)), H', ⟨by first | omega | exact Nat.le_refl _⟩, ⟨by (with_reducible repeat (first | refine blk_drewN ?_ _ | refine blk_drew ?_ | refine blk_alloc ?_ _)); exact BK429.out⟩, ⟨by repeat (first | (with_reducible first | exact HB.out | apply below_alloc | apply pw_below_drewN | apply below_drew1 | refine below_set ?_ GE429.out) | exact HB.out)⟩⟩
  case rest =>
    clear HC6
    try clear c1
    try clear p2
    try clear c6
    try clear c8
    try clear c9
    try clear c11
    try clear c12
    try clear hcz9_0
    try clear hcz9_1
    try clear hcz9_2
    try clear hcz9_3
    try clear hcz9_4
    try clear hfz9_0
    try clear hfz9_1
    try clear hfz9_2
    try clear hfz9_3
    try clear hfz9_4
    obtain ⟨kq, x29_5, rfl, HA, HJ5, BK429, HB⟩ := hcut
    cases kq with
    | zero => exact absurd HA.out (by simp [winnowerlaw07_SchemaOnly.j0])
    | succ kj5 =>
      have H := HA.out
      clear HA
      simp only [winnowerlaw07_SchemaOnly.j0] at H
      by_cases c13 : x29_5 = true
      · subst c13
        have H1 : (some t430) = some r := by rw [if_pos rfl] at H; exact H
        clear H
        have H := H1
        clear H1
        obtain rfl := Option.some.inj H
        go_wp2
        go_ret
        exact ⟨by first | rfl | (simp [errW_none, errW_some] <;> rfl) | (refine congrArg (fun b_ : Bool => Ending.returned (Value.bool b_)) ?_; simp; done) | (simp [*, errW_none, errW_some] <;> rfl), by repeat (first | (with_reducible first | exact HB.out | apply below_alloc | apply pw_below_drewN | apply below_drew1 | refine below_set ?_ GE429.out) | exact HB.out)⟩
      · replace c13 := Bool.eq_false_iff.mpr c13
        subst c13
        have H1 : ((schema_Decode.f l0_0 a0_1 a0_2 a0_3 a0_4 l1).bind fun bt432 => (if bt432.2 = 0 then ((schema_Encode.f kj5 l0_0 a0_1 a0_2 a0_3 a0_4 bt432.1).bind fun bt437 => ((winnowerref01_Same.f l1 bt437.1).bind fun t441 => (if a2 ≥ 0 then (winnowerlaw07_SchemaOnly.j1 kj5 l1 a2 bt432.1 bt437.2 t441 (decide (a2 < (l1.length : Int))) l0_0 a0_1 a0_2 a0_3 a0_4) else (winnowerlaw07_SchemaOnly.j1 kj5 l1 a2 bt432.1 bt437.2 t441 false l0_0 a0_1 a0_2 a0_3 a0_4)))) else (if (bt432.1.length : Int) = 0 then ((schema_May.f l0_0 a0_1 a0_2 a0_3 a0_4).bind fun t436 => (some ((bt432.2 == 1) == (!t436)))) else (some false)))) = some r := by rw [if_neg (show ¬ (false = true) by decide)] at H; exact H
        clear H
        have H := H1
        clear H1
        replace H := Option.bind_eq_some_iff.mp H
        obtain ⟨⟨t432, t435⟩, A140, H⟩ := H
        replace H : (if t435 = 0 then ((schema_Encode.f kj5 l0_0 a0_1 a0_2 a0_3 a0_4 t432).bind fun bt437 => ((winnowerref01_Same.f l1 bt437.1).bind fun t441 => (if a2 ≥ 0 then (winnowerlaw07_SchemaOnly.j1 kj5 l1 a2 t432 bt437.2 t441 (decide (a2 < (l1.length : Int))) l0_0 a0_1 a0_2 a0_3 a0_4) else (winnowerlaw07_SchemaOnly.j1 kj5 l1 a2 t432 bt437.2 t441 false l0_0 a0_1 a0_2 a0_3 a0_4)))) else (if (t432.length : Int) = 0 then ((schema_May.f l0_0 a0_1 a0_2 a0_3 a0_4).bind fun t436 => (some ((t435 == 1) == (!t436)))) else (some false))) = some r := H
        have A14 := Aside0.mk A140
        clear A140
        by_cases c15 : t435 = 0
        · rw [if_pos c15] at H
          have c15b0 : (t435 == 0) = true := beq_iff_eq.mpr c15
          have c15b1 : (t435 != 0) = false := bne_eq_false_iff_eq.mpr c15
          clear c15
          replace H := Option.bind_eq_some_iff.mp H
          obtain ⟨⟨t437, t440⟩, A160, H⟩ := H
          replace H : ((winnowerref01_Same.f l1 t437).bind fun t441 => (if a2 ≥ 0 then (winnowerlaw07_SchemaOnly.j1 kj5 l1 a2 t432 t440 t441 (decide (a2 < (l1.length : Int))) l0_0 a0_1 a0_2 a0_3 a0_4) else (winnowerlaw07_SchemaOnly.j1 kj5 l1 a2 t432 t440 t441 false l0_0 a0_1 a0_2 a0_3 a0_4))) = some r := H
          have A16 := Aside0.mk A160
          clear A160
          replace H := Option.bind_eq_some_iff.mp H
          obtain ⟨t441, A170, H⟩ := H
          replace H : (if a2 ≥ 0 then (winnowerlaw07_SchemaOnly.j1 kj5 l1 a2 t432 t440 t441 (decide (a2 < (l1.length : Int))) l0_0 a0_1 a0_2 a0_3 a0_4) else (winnowerlaw07_SchemaOnly.j1 kj5 l1 a2 t432 t440 t441 false l0_0 a0_1 a0_2 a0_3 a0_4)) = some r := H
          have A17 := Aside0.mk A170
          clear A170
          have HC18 := Aside0.mk H
          clear H
          have hcz19_0 : wc.cell? ⟨gb429, 0, none⟩ = some (.slice A0_0 l0_0.length c0_0) := (blk_cell BK429.out 0).trans rfl
          have hcz19_1 : wc.cell? ⟨gb429, 1, none⟩ = some (.int .i64 a0_1) := (blk_cell BK429.out 1).trans rfl
          have hcz19_2 : wc.cell? ⟨gb429, 2, none⟩ = some (.int .i64 a0_2) := (blk_cell BK429.out 2).trans rfl
          have hcz19_3 : wc.cell? ⟨gb429, 3, none⟩ = some (.int .i64 a0_3) := (blk_cell BK429.out 3).trans rfl
          have hcz19_4 : wc.cell? ⟨gb429, 4, none⟩ = some (.int .i64 a0_4) := (blk_cell BK429.out 4).trans rfl
          have hfz19_0 := blk_frozen BK429.out 0
          have hfz19_1 := blk_frozen BK429.out 1
          have hfz19_2 := blk_frozen BK429.out 2
          have hfz19_3 := blk_frozen BK429.out 3
          have hfz19_4 := blk_frozen BK429.out 4
          go_upto_region 10 with (first | ((with_reducible refine gate_callee (f := 20) rfl ?_); refine goesL_ (some 34) rfl rfl Tryd.func20 (by kernel_rfl) rfl #[.agg #[.slice A0_0 l0_0.length c0_0, .int .i64 a0_1, .int .i64 a0_2, .int .i64 a0_3, .int .i64 a0_4], .slice A1 l1.length c1] rfl (by (try simp only [List.map_toArray, List.map_cons, List.map_nil]); first | done | rfl | (simp only [List.length_drop, List.length_take]; rfl)) ?_; (with_reducible refine (schema_Decode.calls _ _ l0_0 a0_1 a0_2 a0_3 a0_4 _ _ l1 t432 t435 _ ?side1 ?side2 ?side3 ?side4 ?side5 A14.out).mono ?_); (case side1 => repeat (first | exact (Kd.C_below HR0_0.out HB.out) | (with_reducible refine Kd.C_alloc ?_ _) | (with_reducible refine Kd.C_drewN ?_ _) | (with_reducible refine Kd.C_drew ?_))); (case side2 => exact HC0_0.out); (case side3 => repeat (first | exact (Kd.C_below HR1.out HB.out) | (with_reducible refine Kd.C_alloc ?_ _) | (with_reducible refine Kd.C_drewN ?_ _) | (with_reducible refine Kd.C_drew ?_))); (case side4 => exact HC1.out); (case side5 => exact globs_below HGL.out (by repeat (first | (with_reducible first | exact HB.out | apply below_alloc | apply pw_below_drewN | apply below_drew1 | refine below_set ?_ GE429.out) | exact HB.out))); rintro e w20 ⟨v433, rfl, ho0, hb⟩; refine ⟨_, rfl, ?_⟩; have n0_ := Aside0.mk (Kd.R_lower ho0 (below_size (by repeat (first | (with_reducible first | exact HB.out | apply below_alloc | apply pw_below_drewN | apply below_drew1 | refine below_set ?_ GE429.out) | exact HB.out)))); have n1_ := Aside0.mk (blk_below (g := gb429) (o := .cells #[.slice A0_0 l0_0.length c0_0, .int .i64 a0_1, .int .i64 a0_2, .int .i64 a0_3, .int .i64 a0_4] 24 (0, 0)) (by (with_reducible repeat (first | refine blk_drewN ?_ _ | refine blk_drew ?_ | refine blk_alloc ?_ _)); exact BK429.out) hb); have n2_ := Aside0.mk (below_step (by repeat (first | (with_reducible first | exact HB.out | apply below_alloc | apply pw_below_drewN | apply below_drew1 | refine below_set ?_ GE429.out) | exact HB.out)) hb); clear BK429; clear HB; have HO434 := n0_; have BK429 := n1_; have HB := n2_; clear n0_ n1_ n2_; (try clear hb); (try clear hb2); (try clear hk); (try clear hi); (try clear ho0); have hcz21_0 : w20.cell? ⟨gb429, 0, none⟩ = some (.slice A0_0 l0_0.length c0_0) := (blk_cell BK429.out 0).trans rfl; have hcz21_1 : w20.cell? ⟨gb429, 1, none⟩ = some (.int .i64 a0_1) := (blk_cell BK429.out 1).trans rfl; have hcz21_2 : w20.cell? ⟨gb429, 2, none⟩ = some (.int .i64 a0_2) := (blk_cell BK429.out 2).trans rfl; have hcz21_3 : w20.cell? ⟨gb429, 3, none⟩ = some (.int .i64 a0_3) := (blk_cell BK429.out 3).trans rfl; have hcz21_4 : w20.cell? ⟨gb429, 4, none⟩ = some (.int .i64 a0_4) := (blk_cell BK429.out 4).trans rfl; have hfz21_0 := blk_frozen BK429.out 0; have hfz21_1 := blk_frozen BK429.out 1; have hfz21_2 := blk_frozen BK429.out 2; have hfz21_3 := blk_frozen BK429.out 3; have hfz21_4 := blk_frozen BK429.out 4; obtain ⟨Ao22, co22, eo22⟩ := Kd.R_slice HO434.out; subst eo22) | ((with_reducible refine gate_callee (f := 11) rfl ?_); refine goesL_ (some 53) rfl rfl Tryd.func11 (by kernel_rfl) rfl #[.agg #[.slice A0_0 l0_0.length c0_0, .int .i64 a0_1, .int .i64 a0_2, .int .i64 a0_3, .int .i64 a0_4], .slice Ao22 t432.length co22] rfl (by (try simp only [List.map_toArray, List.map_cons, List.map_nil]); first | done | rfl | (simp only [List.length_drop, List.length_take]; rfl)) ?_; (with_reducible refine (schema_Encode.calls kj5 _ _ l0_0 a0_1 a0_2 a0_3 a0_4 _ _ t432 t437 t440 _ ?side1 ?side2 ?side3 ?side4 A16.out).mono ?_); (case side1 => repeat (first | exact (Kd.C_below HR0_0.out HB.out) | (with_reducible refine Kd.C_alloc ?_ _) | (with_reducible refine Kd.C_drewN ?_ _) | (with_reducible refine Kd.C_drew ?_))); (case side2 => exact HC0_0.out); (case side3 => repeat (first | exact (Kd.R_reads' HO434.out).2.2 | (with_reducible refine Kd.C_alloc ?_ _) | (with_reducible refine Kd.C_drewN ?_ _) | (with_reducible refine Kd.C_drew ?_))); (case side4 => exact (Kd.R_reads' HO434.out).2.1); rintro e w23 ⟨v438, rfl, ho0, hb⟩; refine ⟨_, rfl, ?_⟩; have n0_ := Aside0.mk (Kd.R_below (by (with_reducible repeat (first | apply Kd.R_alloc | apply Kd.R_drewN | apply Kd.R_drew)); exact HO434.out) hb); have n1_ := Aside0.mk (Kd.R_lower ho0 (below_size (by repeat (first | (with_reducible first | exact HB.out | apply below_alloc | apply pw_below_drewN | apply below_drew1 | refine below_set ?_ GE429.out) | exact HB.out)))); have n2_ := Aside0.mk (blk_below (g := gb429) (o := .cells #[.slice A0_0 l0_0.length c0_0, .int .i64 a0_1, .int .i64 a0_2, .int .i64 a0_3, .int .i64 a0_4] 24 (0, 0)) (by (with_reducible repeat (first | refine blk_drewN ?_ _ | refine blk_drew ?_ | refine blk_alloc ?_ _)); exact BK429.out) hb); have n3_ := Aside0.mk (below_step (by repeat (first | (with_reducible first | exact HB.out | apply below_alloc | apply pw_below_drewN | apply below_drew1 | refine below_set ?_ GE429.out) | exact HB.out)) hb); clear HO434; clear BK429; clear HB; have HO434 := n0_; have HO439 := n1_; have BK429 := n2_; have HB := n3_; clear n0_ n1_ n2_ n3_; (try clear hb); (try clear hb2); (try clear hk); (try clear hi); (try clear ho0); obtain ⟨Ao24, co24, eo24⟩ := Kd.R_slice HO439.out; subst eo24) | ((with_reducible refine gate_callee (f := 13) rfl ?_); refine goesL_ (some 58) rfl rfl Tryd.func13 (by kernel_rfl) rfl #[.slice A1 l1.length c1, .slice Ao24 t437.length co24] rfl (by (try simp only [List.map_toArray, List.map_cons, List.map_nil]); first | done | rfl | (simp only [List.length_drop, List.length_take]; rfl)) ?_; (with_reducible refine (winnowerref01_Same.calls _ _ l1 _ _ t437 t441 _ ?side1 ?side2 ?side3 ?side4 A17.out).mono ?_); (case side1 => repeat (first | exact (Kd.C_below HR1.out HB.out) | (with_reducible refine Kd.C_alloc ?_ _) | (with_reducible refine Kd.C_drewN ?_ _) | (with_reducible refine Kd.C_drew ?_))); (case side2 => exact HC1.out); (case side3 => repeat (first | exact (Kd.R_reads' HO439.out).2.2 | (with_reducible refine Kd.C_alloc ?_ _) | (with_reducible refine Kd.C_drewN ?_ _) | (with_reducible refine Kd.C_drew ?_))); (case side4 => exact (Kd.R_reads' HO439.out).2.1); rintro e w' ⟨rfl, ⟨nd, rfl⟩⟩; refine ⟨_, rfl, ?_⟩))
          (try simp only [Act.put, List.setIfInBounds_toArray, List.set_cons_zero, List.set_cons_succ])
          go_cut [66] (fun v66 wc => ∃ (kq : Nat) (x66_17 : Bool), v66 = .bool x66_17 ∧ Aside0 (winnowerlaw07_SchemaOnly.j1 kq l1 a2 t432 t440 t441 x66_17 l0_0 a0_1 a0_2 a0_3 a0_4 = some r) ∧ Aside0 (kq ≤ kj5) ∧ Aside0 (Kd.R k46 46 wc w.heap.size (fun _ => True) (.slice Ao22 t432.length co22) t432) ∧ Aside0 (wc.heap[gb429]? = some (.cells #[(.slice A0_0 l0_0.length c0_0), .int .i64 a0_1, .int .i64 a0_2, .int .i64 a0_3, .int .i64 a0_4] 24 (0, 0))) ∧ Aside0 (Below w.heap.size w wc))
          case first =>
            have H := HC18.out
            clear HC18
            by_cases c25 : a2 ≥ 0
            · rw [if_pos c25] at H
              have c25b0 : decide (0 ≤ a2) = true := decide_eq_true c25
              clear c25
              (first | rw [c25b0] | (simp only [i64_w, i32_w]; rw [c25b0]) | skip)
              have H' := Aside0.mk H
              clear H
              go_wp2
              go_meet
              case rel => exact ⟨_, (decide (a2 < (l1.length : Int))), (by first | rfl | (simp; done) | (simp [*]; done)), H', ⟨by have := HJ5.out; first | omega | exact Nat.le_refl _⟩, ⟨by (with_reducible repeat (first | apply Kd.R_alloc | apply Kd.R_drewN | apply Kd.R_drew)); exact HO434.out⟩, ⟨by (with_reducible repeat (first | refine blk_drewN ?_ _ | refine blk_drew ?_ | refine blk_alloc ?_ _)); exact BK429.out⟩, ⟨by repeat (first | (with_reducible first | exact HB.out | apply below_alloc | apply pw_below_drewN | apply below_drew1 | refine below_set ?_ GE429.out) | exact HB.out)⟩⟩
            · rw [if_neg c25] at H
              have c25b0 : decide (0 ≤ a2) = false := decide_eq_false c25
              clear c25
              (first | rw [c25b0] | (simp only [i64_w, i32_w]; rw [c25b0]) | skip)
              have H' := Aside0.mk H
              clear H
              go_wp2
              go_meet
              case rel => exact ⟨_, (false), (by first | rfl | (simp; done) | (simp [*]; done)), H', ⟨by have := HJ5.out; first | omega | exact Nat.le_refl _⟩, ⟨by (with_reducible repeat (first | apply Kd.R_alloc | apply Kd.R_drewN | apply Kd.R_drew)); exact HO434.out⟩, ⟨by (with_reducible repeat (first | refine blk_drewN ?_ _ | refine blk_drew ?_ | refine blk_alloc ?_ _)); exact BK429.out⟩, ⟨by repeat (first | (with_reducible first | exact HB.out | apply below_alloc | apply pw_below_drewN | apply below_drew1 | refine below_set ?_ GE429.out) | exact HB.out)⟩⟩
          case rest =>
            clear HC18
            try clear c1
            try clear c2
            try clear p2
            try clear c6
            try clear c8
            try clear c9
            try clear c11
            try clear c12
            try clear c13
            try clear c15
            try clear c15b0
            try clear c15b1
            try clear c20
            try clear c25
            try clear c25b0
            try clear hcz19_0
            try clear hcz19_1
            try clear hcz19_2
            try clear hcz19_3
            try clear hcz19_4
            try clear hcz21_0
            try clear hcz21_1
            try clear hcz21_2
            try clear hcz21_3
            try clear hcz21_4
            try clear hcz9_0
            try clear hcz9_1
            try clear hcz9_2
            try clear hcz9_3
            try clear hcz9_4
            try clear hfz19_0
            try clear hfz19_1
            try clear hfz19_2
            try clear hfz19_3
            try clear hfz19_4
            try clear hfz21_0
            try clear hfz21_1
            try clear hfz21_2
            try clear hfz21_3
            try clear hfz21_4
            try clear hfz9_0
            try clear hfz9_1
            try clear hfz9_2
            try clear hfz9_3
            try clear hfz9_4
            try clear p2
            obtain ⟨kq, x66_17, rfl, HA, HJ17, HO_9, BK429, HB⟩ := hcut
            cases kq with
            | zero => exact absurd HA.out (by simp [winnowerlaw07_SchemaOnly.j1])
            | succ kj17 =>
              have H := HA.out
              clear HA
              simp only [winnowerlaw07_SchemaOnly.j1] at H
              by_cases c26 : x66_17 = true
              · subst c26
                have H1 : (if 0 ≤ a2 then (if a2 ≤ (l1.length : Int) then ((schema_Decode.f l0_0 a0_1 a0_2 a0_3 a0_4 (l1.take (a2 : Int).toNat)).bind fun bt443 => (if bt443.2 = 0 then (some false) else (if t441 = true then (if t440 = 0 then ((schema_Fits.f kj17 l0_0 a0_1 a0_2 a0_3 a0_4 t432).bind fun t447 => (some t447)) else (some false)) else (some false)))) else (none)) else (none)) = some r := by rw [if_pos rfl] at H; exact H
                clear H
                have H := H1
                clear H1
                by_cases c27 : 0 ≤ a2
                · rw [if_pos c27] at H
                  have c27b0 := eq_true c27
                  have c27b1 : decide (0 ≤ a2) = true := decide_eq_true c27
                  clear c27
                  by_cases c28 : a2 ≤ (l1.length : Int)
                  · rw [if_pos c28] at H
                    have c28b0 := eq_true c28
                    have c28b1 : decide (a2 ≤ (l1.length : Int)) = true := decide_eq_true c28
                    clear c28
                    replace H := Option.bind_eq_some_iff.mp H
                    obtain ⟨⟨t443, t446⟩, A290, H⟩ := H
                    replace H : (if t446 = 0 then (some false) else (if t441 = true then (if t440 = 0 then ((schema_Fits.f kj17 l0_0 a0_1 a0_2 a0_3 a0_4 t432).bind fun t447 => (some t447)) else (some false)) else (some false))) = some r := H
                    have A29 := Aside0.mk A290
                    clear A290
                    by_cases c30 : t446 = 0
                    · rw [if_pos c30] at H
                      have c30b0 : (t446 == 0) = true := beq_iff_eq.mpr c30
                      have c30b1 : (t446 != 0) = false := bne_eq_false_iff_eq.mpr c30
                      clear c30
                      exact absurd (HTRUE.out.symm.trans (Option.some.inj H).symm) (by decide)
                    · rw [if_neg c30] at H
                      have c30b0 : (t446 == 0) = false := beq_eq_false_iff_ne.mpr c30
                      have c30b1 : (t446 != 0) = true := bne_iff_ne.mpr c30
                      by_cases c31 : t441 = true
                      · subst c31
                        have H1 : (if t440 = 0 then ((schema_Fits.f kj17 l0_0 a0_1 a0_2 a0_3 a0_4 t432).bind fun t447 => (some t447)) else (some false)) = some r := by rw [if_pos rfl] at H; exact H
                        clear H
                        have H := H1
                        clear H1
                        by_cases c32 : t440 = 0
                        · rw [if_pos c32] at H
                          have c32b0 : (t440 == 0) = true := beq_iff_eq.mpr c32
                          have c32b1 : (t440 != 0) = false := bne_eq_false_iff_eq.mpr c32
                          clear c32
                          replace H := Option.bind_eq_some_iff.mp H
                          obtain ⟨t447, A330, H⟩ := H
                          replace H : (some t447) = some r := H
                          have A33 := Aside0.mk A330
                          clear A330
                          obtain rfl := Option.some.inj H
                          try go_wp2
                          have n0_ := Aside0.mk (Kd.R_drew HO_9.out); have n1_ := Aside0.mk (blk_drew BK429.out); have n2_ := Aside0.mk (below_drew1 HB.out); clear HO_9; clear BK429; clear HB; have HO_9 := n0_; have BK429 := n1_; have HB := n2_; clear n0_ n1_ n2_
                          obtain ⟨i035, hi035, _, hsz35, _⟩ := info_parts info5
                          obtain ⟨hcut35, hA35, hC35⟩ := print_take_of (P := Tryd.prog) (Value.int .u8) 0 29 5 .i64 Tryd.underlying29 hi035 hsz35 A1 c1 l1 a2 (of_decide_eq_true (by first | (with_reducible assumption) | assumption)) (of_decide_eq_true (by first | (with_reducible assumption) | assumption)) HC1.out
                          have HR442 := Aside0.mk (Kd.C_of_reads (h1 := fun _ => rfl) (hA35 _ (Kd.reads_of_C HR1.out)))
                          have HC442 := Aside0.mk hC35
                          clear hA35 hC35 hi035 hsz35
                          refine start_ (n := 10) (S := fun w' => w'.cell? ⟨gb429, 0, none⟩ = some (.slice A0_0 l0_0.length c0_0) ∧ w'.cell? ⟨gb429, 1, none⟩ = some (.int .i64 a0_1) ∧ w'.cell? ⟨gb429, 2, none⟩ = some (.int .i64 a0_2) ∧ w'.cell? ⟨gb429, 3, none⟩ = some (.int .i64 a0_3) ∧ w'.cell? ⟨gb429, 4, none⟩ = some (.int .i64 a0_4)) (ds := []) #[false, false, false, false, false, false, false, false, false, false] (by kernel_rfl) rfl rfl ⟨(blk_cell BK429.out 0).trans rfl, (blk_cell BK429.out 1).trans rfl, (blk_cell BK429.out 2).trans rfl, (blk_cell BK429.out 3).trans rfl, (blk_cell BK429.out 4).trans rfl⟩ (fun hHeld => ?_); refine with_tabW winnowerlaw07_SchemaOnly.tab11 winnowerlaw07_SchemaOnly.bits11 (fun HT_ HW_ => ?_)
                          generalize wc.drew = w34 at HO_9 BK429 HB HR442 hHeld ⊢
                          refine pure_ (i := 1) (N := some 69) (v := ?_) (a' := ?_) #[false, true, false, false, false, false, false, false, false, false] rfl rfl (any_of HT_.out (by kernel_rfl)) (fun _ _ _ h => h) (Or.inl ⟨by rfl, ?_⟩) ?_ ?_
                          rotate_left
                          · intro w'
                            go_simp
                            with_reducible rfl
                          rotate_left
                          · simp only [Act.put, List.setIfInBounds_toArray, List.set_cons_zero, List.set_cons_succ, i64_w, i32_w]
                            rfl
                          refine pure_ (i := 2) (N := some 70) (v := ?_) (a' := ?_) #[false, true, true, false, false, false, false, false, false, false] rfl rfl (any_of HT_.out (by kernel_rfl)) (fun _ _ _ h => h) (Or.inl ⟨by rfl, ?_⟩) ?_ ?_
                          rotate_left
                          · intro w'
                            go_simp
                            with_reducible rfl
                          rotate_left
                          · simp only [Act.put, List.setIfInBounds_toArray, List.set_cons_zero, List.set_cons_succ, i64_w, i32_w]
                            rfl
                          refine pure_ (i := 3) (N := some 71) (v := ?_) (a' := ?_) #[false, true, true, true, false, false, false, false, false, false] rfl rfl (any_of HT_.out (by kernel_rfl)) (fun _ _ _ h => h) (Or.inl ⟨by rfl, ?_⟩) ?_ ?_
                          rotate_left
                          · intro w'
                            go_simp
                            with_reducible rfl
                          rotate_left
                          · simp only [Act.put, List.setIfInBounds_toArray, List.set_cons_zero, List.set_cons_succ, i64_w, i32_w]
                            rfl
                          refine take_ (i := 0) (N := some 68) (v := ?_) (a' := ?_) #[true, true, true, true, false, false, false, false, false, false] rfl rfl (take_ofW HT_.out HW_.out (by kernel_rfl)) (fun _ _ _ h => h) (Or.inl ⟨by rfl, ?_⟩) hHeld ?_ ?_
                          rotate_left
                          · rintro w' ⟨s0, s1, s2, s3, s4⟩
                            go_simp
                            with_reducible rfl
                          rotate_left
                          · simp only [Act.put, List.setIfInBounds_toArray, List.set_cons_zero, List.set_cons_succ, i64_w, i32_w]
                            rfl
                          refine one_ (i := 4) (N := some 72) #[true, true, true, true, true, false, false, false, false, false] rfl rfl (one_of HT_.out (by kernel_rfl)) (by decide) (fun K hK => ?_)
                          refine goes_ Tryd.func20 (by kernel_rfl) rfl #[.agg #[.slice A0_0 l0_0.length c0_0, .int .i64 a0_1, .int .i64 a0_2, .int .i64 a0_3, .int .i64 a0_4], .slice A1 (l1.take (a2 : Int).toNat).length c1] (by rfl) rfl rfl (by (try simp only [List.map_toArray, List.map_cons, List.map_nil]); first | done | (rw [show (l1.take (a2 : Int).toNat).length = a2.toNat from (by rw [List.length_take]; have h_ : (a2 : Int) ≤ (l1.length : Int) := of_decide_eq_true (by first | (with_reducible assumption) | assumption); omega)] <;> rfl) | rfl | (simp only [List.length_drop, List.length_take]; rfl)) ?_
                          with_reducible refine (schema_Decode.calls _ _ l0_0 a0_1 a0_2 a0_3 a0_4 _ _ (l1.take (a2 : Int).toNat) t443 t446 _ ?side1 ?side2 ?side3 ?side4 ?side5 A29.out).mono ?_
                          (case side1 => repeat (first | exact (Kd.C_below HR0_0.out HB.out) | (with_reducible refine Kd.C_alloc ?_ _) | (with_reducible refine Kd.C_drewN ?_ _) | (with_reducible refine Kd.C_drew ?_)))
                          (case side2 => exact HC0_0.out)
                          (case side3 => repeat (first | exact (Kd.C_below HR442.out HB.out) | (with_reducible refine Kd.C_alloc ?_ _) | (with_reducible refine Kd.C_drewN ?_ _) | (with_reducible refine Kd.C_drew ?_)))
                          (case side4 => exact HC442.out)
                          (case side5 => exact globs_below HGL.out (by repeat (first | (with_reducible first | exact HB.out | apply below_alloc | apply pw_below_drewN | apply below_drew1 | refine below_set ?_ GE429.out) | exact HB.out)))
                          rintro e w36 ⟨v444, rfl, ho0, hb⟩
                          refine ⟨_, rfl, ?_⟩
                          have n0_ := Aside0.mk (Kd.R_elder' (by (with_reducible repeat (first | apply Kd.R_alloc | apply Kd.R_drewN | apply Kd.R_drew)); exact HO_9.out) (Kd.R_base ho0) hb); have n2_ := Aside0.mk (blk_below (g := gb429) (o := .cells #[.slice A0_0 l0_0.length c0_0, .int .i64 a0_1, .int .i64 a0_2, .int .i64 a0_3, .int .i64 a0_4] 24 (0, 0)) (by (with_reducible repeat (first | refine blk_drewN ?_ _ | refine blk_drew ?_ | refine blk_alloc ?_ _)); exact BK429.out) hb); have n3_ := Aside0.mk (below_step (by repeat (first | (with_reducible first | exact HB.out | apply below_alloc | apply pw_below_drewN | apply below_drew1 | refine below_set ?_ GE429.out) | exact HB.out)) hb); clear HO_9; clear BK429; clear HB; have HO_9 := n0_; have BK429 := n2_; have HB := n3_; clear n0_ n2_ n3_; (try clear hb); (try clear hb2); (try clear hk); (try clear hi); (try clear ho0)
                          refine hK.out _ _ ⟨(blk_cell BK429.out 0).trans rfl, (blk_cell BK429.out 1).trans rfl, (blk_cell BK429.out 2).trans rfl, (blk_cell BK429.out 3).trans rfl, (blk_cell BK429.out 4).trans rfl⟩ (fun hHeld => ?_)
                          clear hK K
                          refine norm_ (a' := ?_) ?_ ?_
                          rotate_left
                          · show Act.put _ (some 72) _ = _
                            simp only [Act.put, List.setIfInBounds_toArray, List.set_cons_zero, List.set_cons_succ, i64_w, i32_w]
                            rfl
                          refine pure_ (i := 5) (N := some 67) (v := ?_) (a' := ?_) #[true, true, true, true, true, true, false, false, false, false] rfl rfl (any_of HT_.out (by kernel_rfl)) (fun _ _ _ h => h) (Or.inl ⟨by rfl, ?_⟩) ?_ ?_
                          rotate_left
                          · intro w'
                            go_simp
                            with_reducible rfl
                          rotate_left
                          · simp only [Act.put, List.setIfInBounds_toArray, List.set_cons_zero, List.set_cons_succ, i64_w, i32_w]
                            rfl
                          refine pure_ (i := 6) (N := some 73) (v := ?_) (a' := ?_) #[true, true, true, true, true, true, true, false, false, false] rfl rfl (any_of HT_.out (by kernel_rfl)) (fun _ _ _ h => h) (Or.inl ⟨by rfl, ?_⟩) ?_ ?_
                          rotate_left
                          · intro w'
                            go_simp
                            with_reducible rfl
                          rotate_left
                          · simp only [Act.put, List.setIfInBounds_toArray, List.set_cons_zero, List.set_cons_succ, i64_w, i32_w]
                            rfl
                          refine pure_ (i := 7) (N := some 74) (v := ?_) (a' := ?_) #[true, true, true, true, true, true, true, true, false, false] rfl rfl (any_of HT_.out (by kernel_rfl)) (fun _ _ _ h => h) (Or.inl ⟨by rfl, ?_⟩) ?_ ?_
                          rotate_left
                          · intro w'
                            go_simp
                            with_reducible rfl
                          rotate_left
                          · simp only [Act.put, List.setIfInBounds_toArray, List.set_cons_zero, List.set_cons_succ, i64_w, i32_w]
                            rfl
                          refine pure_ (i := 8) (N := some 14) (v := ?_) (a' := ?_) #[true, true, true, true, true, true, true, true, true, false] rfl rfl (any_of HT_.out (by kernel_rfl)) (fun _ _ _ h => h) (Or.inl ⟨by rfl, ?_⟩) ?_ ?_
                          rotate_left
                          · intro w'
                            go_simp
                            with_reducible rfl
                          rotate_left
                          · simp only [Act.put, List.setIfInBounds_toArray, List.set_cons_zero, List.set_cons_succ, i64_w, i32_w]
                            rfl
                          refine pure_ (i := 9) (N := some 15) (v := ?_) (a' := ?_) #[true, true, true, true, true, true, true, true, true, true] rfl rfl (any_of HT_.out (by kernel_rfl)) (fun _ _ _ h => h) (Or.inl ⟨by rfl, ?_⟩) ?_ ?_
                          rotate_left
                          · intro w'
                            go_simp
                            with_reducible rfl
                          rotate_left
                          · simp only [Act.put, List.setIfInBounds_toArray, List.set_cons_zero, List.set_cons_succ, i64_w, i32_w]
                            rfl
                          refine done_ (done_of HT_.out (by kernel_rfl)) ?_
                          have hcz37_0 : w36.cell? ⟨gb429, 0, none⟩ = some (.slice A0_0 l0_0.length c0_0) := (blk_cell BK429.out 0).trans rfl
                          have hcz37_1 : w36.cell? ⟨gb429, 1, none⟩ = some (.int .i64 a0_1) := (blk_cell BK429.out 1).trans rfl
                          have hcz37_2 : w36.cell? ⟨gb429, 2, none⟩ = some (.int .i64 a0_2) := (blk_cell BK429.out 2).trans rfl
                          have hcz37_3 : w36.cell? ⟨gb429, 3, none⟩ = some (.int .i64 a0_3) := (blk_cell BK429.out 3).trans rfl
                          have hcz37_4 : w36.cell? ⟨gb429, 4, none⟩ = some (.int .i64 a0_4) := (blk_cell BK429.out 4).trans rfl
                          have hfz37_0 := blk_frozen BK429.out 0
                          have hfz37_1 := blk_frozen BK429.out 1
                          have hfz37_2 := blk_frozen BK429.out 2
                          have hfz37_3 := blk_frozen BK429.out 3
                          have hfz37_4 := blk_frozen BK429.out 4
                          try go_wp2_with (first | (go_at_call 18; (with_reducible refine (schema_Fits.calls kj17 _ _ l0_0 a0_1 a0_2 a0_3 a0_4 _ _ t432 t447 _ ?side1 ?side2 ?side3 ?side4 A33.out).mono ?_); (case side1 => repeat (first | exact (Kd.C_below HR0_0.out HB.out) | (with_reducible refine Kd.C_alloc ?_ _) | (with_reducible refine Kd.C_drewN ?_ _) | (with_reducible refine Kd.C_drew ?_))); (case side2 => exact HC0_0.out); (case side3 => repeat (first | exact (Kd.R_reads' HO_9.out).2.2 | (with_reducible refine Kd.C_alloc ?_ _) | (with_reducible refine Kd.C_drewN ?_ _) | (with_reducible refine Kd.C_drew ?_))); (case side4 => exact (Kd.R_reads' HO_9.out).2.1); rintro e w38 ⟨rfl, hb⟩; have n3_ := Aside0.mk (below_step (by repeat (first | (with_reducible first | exact HB.out | apply below_alloc | apply pw_below_drewN | apply below_drew1 | refine below_set ?_ GE429.out) | exact HB.out)) hb); clear HO_9; clear BK429; clear HB; have HB := n3_; clear n3_; (try clear hb); (try clear hb2); (try clear hk); (try clear hi)))
                          go_ret
                          exact ⟨by first | rfl | (simp [errW_none, errW_some] <;> rfl) | (refine congrArg (fun b_ : Bool => Ending.returned (Value.bool b_)) ?_; simp; done) | (simp [*, errW_none, errW_some] <;> rfl), by repeat (first | (with_reducible first | exact HB.out | apply below_alloc | apply pw_below_drewN | apply below_drew1 | refine below_set ?_ GE429.out) | exact HB.out)⟩
                        · rw [if_neg c32] at H
                          have c32b0 : (t440 == 0) = false := beq_eq_false_iff_ne.mpr c32
                          have c32b1 : (t440 != 0) = true := bne_iff_ne.mpr c32
                          exact absurd (HTRUE.out.symm.trans (Option.some.inj H).symm) (by decide)
                      · replace c31 := Bool.eq_false_iff.mpr c31
                        subst c31
                        have H1 : (some false) = some r := by rw [if_neg (show ¬ (false = true) by decide)] at H; exact H
                        clear H
                        have H := H1
                        clear H1
                        exact absurd (HTRUE.out.symm.trans (Option.some.inj H).symm) (by decide)
                  · rw [if_neg c28] at H
                    exact absurd H (by simp)
                · rw [if_neg c27] at H
                  exact absurd H (by simp)
              · replace c26 := Bool.eq_false_iff.mpr c26
                subst c26
                have H1 : (if t441 = true then (if t440 = 0 then ((schema_Fits.f kj17 l0_0 a0_1 a0_2 a0_3 a0_4 t432).bind fun t448 => (some t448)) else (some false)) else (some false)) = some r := by rw [if_neg (show ¬ (false = true) by decide)] at H; exact H
                clear H
                have H := H1
                clear H1
                by_cases c39 : t441 = true
                · subst c39
                  have H1 : (if t440 = 0 then ((schema_Fits.f kj17 l0_0 a0_1 a0_2 a0_3 a0_4 t432).bind fun t448 => (some t448)) else (some false)) = some r := by rw [if_pos rfl] at H; exact H
                  clear H
                  have H := H1
                  clear H1
                  by_cases c40 : t440 = 0
                  · rw [if_pos c40] at H
                    have c40b0 : (t440 == 0) = true := beq_iff_eq.mpr c40
                    have c40b1 : (t440 != 0) = false := bne_eq_false_iff_eq.mpr c40
                    clear c40
                    replace H := Option.bind_eq_some_iff.mp H
                    obtain ⟨t448, A410, H⟩ := H
                    replace H : (some t448) = some r := H
                    have A41 := Aside0.mk A410
                    clear A410
                    obtain rfl := Option.some.inj H
                    have hcz42_0 : wc.cell? ⟨gb429, 0, none⟩ = some (.slice A0_0 l0_0.length c0_0) := (blk_cell BK429.out 0).trans rfl
                    have hcz42_1 : wc.cell? ⟨gb429, 1, none⟩ = some (.int .i64 a0_1) := (blk_cell BK429.out 1).trans rfl
                    have hcz42_2 : wc.cell? ⟨gb429, 2, none⟩ = some (.int .i64 a0_2) := (blk_cell BK429.out 2).trans rfl
                    have hcz42_3 : wc.cell? ⟨gb429, 3, none⟩ = some (.int .i64 a0_3) := (blk_cell BK429.out 3).trans rfl
                    have hcz42_4 : wc.cell? ⟨gb429, 4, none⟩ = some (.int .i64 a0_4) := (blk_cell BK429.out 4).trans rfl
                    have hfz42_0 := blk_frozen BK429.out 0
                    have hfz42_1 := blk_frozen BK429.out 1
                    have hfz42_2 := blk_frozen BK429.out 2
                    have hfz42_3 := blk_frozen BK429.out 3
                    have hfz42_4 := blk_frozen BK429.out 4
                    go_wp2_with (first | (go_at_call 18; (with_reducible refine (schema_Fits.calls kj17 _ _ l0_0 a0_1 a0_2 a0_3 a0_4 _ _ t432 t448 _ ?side1 ?side2 ?side3 ?side4 A41.out).mono ?_); (case side1 => repeat (first | exact (Kd.C_below HR0_0.out HB.out) | (with_reducible refine Kd.C_alloc ?_ _) | (with_reducible refine Kd.C_drewN ?_ _) | (with_reducible refine Kd.C_drew ?_))); (case side2 => exact HC0_0.out); (case side3 => repeat (first | exact (Kd.R_reads' HO_9.out).2.2 | (with_reducible refine Kd.C_alloc ?_ _) | (with_reducible refine Kd.C_drewN ?_ _) | (with_reducible refine Kd.C_drew ?_))); (case side4 => exact (Kd.R_reads' HO_9.out).2.1); rintro e w43 ⟨rfl, hb⟩; have n2_ := Aside0.mk (below_step (by repeat (first | (with_reducible first | exact HB.out | apply below_alloc | apply pw_below_drewN | apply below_drew1 | refine below_set ?_ GE429.out) | exact HB.out)) hb); clear HO_9; clear BK429; clear HB; have HB := n2_; clear n2_; (try clear hb); (try clear hb2); (try clear hk); (try clear hi)))
                    go_ret
                    exact ⟨by first | rfl | (simp [errW_none, errW_some] <;> rfl) | (refine congrArg (fun b_ : Bool => Ending.returned (Value.bool b_)) ?_; simp; done) | (simp [*, errW_none, errW_some] <;> rfl), by repeat (first | (with_reducible first | exact HB.out | apply below_alloc | apply pw_below_drewN | apply below_drew1 | refine below_set ?_ GE429.out) | exact HB.out)⟩
                  · rw [if_neg c40] at H
                    have c40b0 : (t440 == 0) = false := beq_eq_false_iff_ne.mpr c40
                    have c40b1 : (t440 != 0) = true := bne_iff_ne.mpr c40
                    exact absurd (HTRUE.out.symm.trans (Option.some.inj H).symm) (by decide)
                · replace c39 := Bool.eq_false_iff.mpr c39
                  subst c39
                  have H1 : (some false) = some r := by rw [if_neg (show ¬ (false = true) by decide)] at H; exact H
                  clear H
                  have H := H1
                  clear H1
                  exact absurd (HTRUE.out.symm.trans (Option.some.inj H).symm) (by decide)
        · rw [if_neg c15] at H
          have c15b0 : (t435 == 0) = false := beq_eq_false_iff_ne.mpr c15
          have c15b1 : (t435 != 0) = true := bne_iff_ne.mpr c15
          by_cases c44 : (t432.length : Int) = 0
          · rw [if_pos c44] at H
            have c44b0 : ((t432.length : Int) == 0) = true := beq_iff_eq.mpr c44
            have c44b1 : ((t432.length : Int) != 0) = false := bne_eq_false_iff_eq.mpr c44
            clear c44
            replace H := Option.bind_eq_some_iff.mp H
            obtain ⟨t436, A450, H⟩ := H
            replace H : (some ((t435 == 1) == (!t436))) = some r := H
            have A45 := Aside0.mk A450
            clear A450
            obtain rfl := Option.some.inj H
            have hcz46_0 : wc.cell? ⟨gb429, 0, none⟩ = some (.slice A0_0 l0_0.length c0_0) := (blk_cell BK429.out 0).trans rfl
            have hcz46_1 : wc.cell? ⟨gb429, 1, none⟩ = some (.int .i64 a0_1) := (blk_cell BK429.out 1).trans rfl
            have hcz46_2 : wc.cell? ⟨gb429, 2, none⟩ = some (.int .i64 a0_2) := (blk_cell BK429.out 2).trans rfl
            have hcz46_3 : wc.cell? ⟨gb429, 3, none⟩ = some (.int .i64 a0_3) := (blk_cell BK429.out 3).trans rfl
            have hcz46_4 : wc.cell? ⟨gb429, 4, none⟩ = some (.int .i64 a0_4) := (blk_cell BK429.out 4).trans rfl
            have hfz46_0 := blk_frozen BK429.out 0
            have hfz46_1 := blk_frozen BK429.out 1
            have hfz46_2 := blk_frozen BK429.out 2
            have hfz46_3 := blk_frozen BK429.out 3
            have hfz46_4 := blk_frozen BK429.out 4
            go_wp2_with (first | ((with_reducible refine gate_callee (f := 20) rfl ?_); refine goesL_ (some 34) rfl rfl Tryd.func20 (by kernel_rfl) rfl #[.agg #[.slice A0_0 l0_0.length c0_0, .int .i64 a0_1, .int .i64 a0_2, .int .i64 a0_3, .int .i64 a0_4], .slice A1 l1.length c1] rfl (by (try simp only [List.map_toArray, List.map_cons, List.map_nil]); first | done | rfl | (simp only [List.length_drop, List.length_take]; rfl)) ?_; (with_reducible refine (schema_Decode.calls _ _ l0_0 a0_1 a0_2 a0_3 a0_4 _ _ l1 t432 t435 _ ?side1 ?side2 ?side3 ?side4 ?side5 A14.out).mono ?_); (case side1 => repeat (first | exact (Kd.C_below HR0_0.out HB.out) | (with_reducible refine Kd.C_alloc ?_ _) | (with_reducible refine Kd.C_drewN ?_ _) | (with_reducible refine Kd.C_drew ?_))); (case side2 => exact HC0_0.out); (case side3 => repeat (first | exact (Kd.C_below HR1.out HB.out) | (with_reducible refine Kd.C_alloc ?_ _) | (with_reducible refine Kd.C_drewN ?_ _) | (with_reducible refine Kd.C_drew ?_))); (case side4 => exact HC1.out); (case side5 => exact globs_below HGL.out (by repeat (first | (with_reducible first | exact HB.out | apply below_alloc | apply pw_below_drewN | apply below_drew1 | refine below_set ?_ GE429.out) | exact HB.out))); rintro e w47 ⟨v433, rfl, ho0, hb⟩; refine ⟨_, rfl, ?_⟩; have n0_ := Aside0.mk (Kd.R_lower ho0 (below_size (by repeat (first | (with_reducible first | exact HB.out | apply below_alloc | apply pw_below_drewN | apply below_drew1 | refine below_set ?_ GE429.out) | exact HB.out)))); have n1_ := Aside0.mk (blk_below (g := gb429) (o := .cells #[.slice A0_0 l0_0.length c0_0, .int .i64 a0_1, .int .i64 a0_2, .int .i64 a0_3, .int .i64 a0_4] 24 (0, 0)) (by (with_reducible repeat (first | refine blk_drewN ?_ _ | refine blk_drew ?_ | refine blk_alloc ?_ _)); exact BK429.out) hb); have n2_ := Aside0.mk (below_step (by repeat (first | (with_reducible first | exact HB.out | apply below_alloc | apply pw_below_drewN | apply below_drew1 | refine below_set ?_ GE429.out) | exact HB.out)) hb); clear BK429; clear HB; have HO434 := n0_; have BK429 := n1_; have HB := n2_; clear n0_ n1_ n2_; (try clear hb); (try clear hb2); (try clear hk); (try clear hi); (try clear ho0); obtain ⟨Ao48, co48, eo48⟩ := Kd.R_slice HO434.out; subst eo48; have hcz49_0 : w47.cell? ⟨gb429, 0, none⟩ = some (.slice A0_0 l0_0.length c0_0) := (blk_cell BK429.out 0).trans rfl; have hcz49_1 : w47.cell? ⟨gb429, 1, none⟩ = some (.int .i64 a0_1) := (blk_cell BK429.out 1).trans rfl; have hcz49_2 : w47.cell? ⟨gb429, 2, none⟩ = some (.int .i64 a0_2) := (blk_cell BK429.out 2).trans rfl; have hcz49_3 : w47.cell? ⟨gb429, 3, none⟩ = some (.int .i64 a0_3) := (blk_cell BK429.out 3).trans rfl; have hcz49_4 : w47.cell? ⟨gb429, 4, none⟩ = some (.int .i64 a0_4) := (blk_cell BK429.out 4).trans rfl; have hfz49_0 := blk_frozen BK429.out 0; have hfz49_1 := blk_frozen BK429.out 1; have hfz49_2 := blk_frozen BK429.out 2; have hfz49_3 := blk_frozen BK429.out 3; have hfz49_4 := blk_frozen BK429.out 4) | (go_at_call 14; (with_reducible refine (schema_May.calls _ _ l0_0 a0_1 a0_2 a0_3 a0_4 t436 _ ?side1 ?side2 A45.out).mono ?_); (case side1 => repeat (first | exact (Kd.C_below HR0_0.out HB.out) | (with_reducible refine Kd.C_alloc ?_ _) | (with_reducible refine Kd.C_drewN ?_ _) | (with_reducible refine Kd.C_drew ?_))); (case side2 => exact HC0_0.out); rintro e w50 ⟨rfl, hb⟩; have n2_ := Aside0.mk (below_step (by repeat (first | (with_reducible first | exact HB.out | apply below_alloc | apply pw_below_drewN | apply below_drew1 | refine below_set ?_ GE429.out) | exact HB.out)) hb); clear HO434; clear BK429; clear HB; have HB := n2_; clear n2_; (try clear hb); (try clear hb2); (try clear hk); (try clear hi)))
            go_ret
            exact ⟨by first | rfl | (simp [errW_none, errW_some] <;> rfl) | (refine congrArg (fun b_ : Bool => Ending.returned (Value.bool b_)) ?_; simp; done) | (simp [*, errW_none, errW_some] <;> rfl), by repeat (first | (with_reducible first | exact HB.out | apply below_alloc | apply pw_below_drewN | apply below_drew1 | refine below_set ?_ GE429.out) | exact HB.out)⟩
          · rw [if_neg c44] at H
            have c44b0 : ((t432.length : Int) == 0) = false := beq_eq_false_iff_ne.mpr c44
            have c44b1 : ((t432.length : Int) != 0) = true := bne_iff_ne.mpr c44
            have c44b2 : ¬ (t432 = []) := fun h_ => c44 (by rw [h_]; rfl)
            exact absurd (HTRUE.out.symm.trans (Option.some.inj H).symm) (by decide)

end Go.Proofs.YteefchdfdgfaaaaDoor.Q
