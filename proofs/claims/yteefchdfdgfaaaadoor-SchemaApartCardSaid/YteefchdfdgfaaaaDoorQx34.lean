/- The machine side of laws, written by wip/tools/myprint.py (the printer's way, with functions proved by hand put in); Lean checks it. -/
import Derived.Test.YteefchdfdgfaaaaDoorJ1
import Derived.Test.YteefchdfdgfaaaaDoorJ3
import Derived.Test.YteefchdfdgfaaaaDoorQx12
import Derived.Test.YteefchdfdgfaaaaDoorQx18
import Derived.Test.YteefchdfdgfaaaaDoorJ5
import Derived.Test.YteefchdfdgfaaaaDoorJ4
namespace Go.Proofs.YteefchdfdgfaaaaDoor.Q
open Go.RowKit Go.Proofs.YteefchdfdgfaaaaDoorW.PrintWords Go.Proofs.YteefchdfdgfaaaaDoorW.PrintLast Go.Proofs.YteefchdfdgfaaaaDoorW.PrintMore
attribute [local go_sem] max2_int min2_int max_two min_two max_three min_three max_four min_four   -- for this text's walks alone
set_option linter.unusedVariables false
set_option linter.unusedSimpArgs false

/-! ### winnowerlaw07_SchemaDecodes: function 4 -/

/-! ### winnowerlaw07_SchemaBack: function 5 -/
def winnowerlaw07_SchemaBack.j0 : Nat → List (S46) → List Int → Bool → Bool → List (S48) → Int → Int → Int → Int → Option (Bool)
  | 0, _, _, _, _, _, _, _, _, _ => none
  | k + 1, x1, x2, x7, x36, x406000, x406001, x406002, x406003, x406004 => if x36 = true then (some x7) else ((schema_Encode.f k x406000 x406001 x406002 x406003 x406004 x1).bind fun bt409 => ((schema_Fits.f k x406000 x406001 x406002 x406003 x406004 x1).bind fun t413 => (if t413 = true then ((schema_Decode.f x406000 x406001 x406002 x406003 x406004 bt409.1).bind fun bt414 => ((winnowerref06_Same.f k bt414.1 x1).bind fun t418 => (if (x2.length : Int) > 0 then (if ([] : List Int).length + bt409.1.length < 140737488355328 then ((some (([] : List Int) ++ bt409.1 : List Int)).bind fun y419 => (if y419.length + x2.length < 140737488355328 then ((schema_Decode.f x406000 x406001 x406002 x406003 x406004 (y419 ++ x2)).bind fun bt425 => (if bt425.2 = 7 then (if bt409.2 = 0 then (if bt414.2 = 0 then (some t418) else (some false)) else (some false)) else (some false))) else (none))) else (none)) else (if bt409.2 = 0 then (if bt414.2 = 0 then (some t418) else (some false)) else (some false))))) else (if bt409.2 = 1 then (some ((bt409.1.length : Int) == 0)) else (some false)))))
def winnowerlaw07_SchemaBack.f (k : Nat) (l0_0 : List (S48)) (a0_1 : Int) (a0_2 : Int) (a0_3 : Int) (a0_4 : Int) (l1 : List (S46)) (l2 : List Int) : Option (Bool) := (winnowerlaw07_awake.f).bind fun t406 => ((winnowerref07_Few.f k l0_0 a0_1 a0_2 a0_3 a0_4).bind fun t407 => ((winnowerref07_Light.f k l1).bind fun t408 => (if t406 = true then (if t407 = true then (if t408 = true then (winnowerlaw07_SchemaBack.j0 k l1 l2 t406 (decide ((l2.length : Int) > 100)) l0_0 a0_1 a0_2 a0_3 a0_4) else (winnowerlaw07_SchemaBack.j0 k l1 l2 t406 true l0_0 a0_1 a0_2 a0_3 a0_4)) else (winnowerlaw07_SchemaBack.j0 k l1 l2 t406 true l0_0 a0_1 a0_2 a0_3 a0_4)) else (winnowerlaw07_SchemaBack.j0 k l1 l2 t406 true l0_0 a0_1 a0_2 a0_3 a0_4))))
def winnowerlaw07_SchemaBack.T12 : Bool × List (List Nat × List Nat) := (true, [([], []), ([], []), ([1], [1]), ([], []), ([2, 3, 2], [2, 3]), ([0, 4, 4], [0, 4]), ([5], [5]), ([6], [6]), ([6], [6]), ([7, 5, 0, 1, 2, 3, 4, 5, 6, 7], [7]), ([8, 9, 0, 1, 2, 3, 4, 5, 6, 7, 8, 9], [8])])
def winnowerlaw07_SchemaBack.B12 : List Nat := [0, 0, 2, 0, 14, 31, 63, 127, 127, 255, 1023]
theorem winnowerlaw07_SchemaBack.tab12 : rtab .any (opsOf Tryd.f5 12) = winnowerlaw07_SchemaBack.T12 := by kernel_rfl
theorem winnowerlaw07_SchemaBack.bits12 : waitsOk winnowerlaw07_SchemaBack.T12.2 winnowerlaw07_SchemaBack.B12 = true := by kernel_rfl
set_option maxHeartbeats 8000000 in
set_option maxRecDepth 100000 in
theorem winnowerlaw07_SchemaBack.calls (k : Nat) (A0_0 : Option Addr) (c0_0 : Nat) (l0_0 : List (S48)) (a0_1 : Int) (a0_2 : Int) (a0_3 : Int) (a0_4 : Int) (A1 : Option Addr) (c1 : Nat) (l1 : List (S46)) (A2 : Option Addr) (c2 : Nat) (l2 : List Int) (r : Bool) (w : World) (hr0_0 : Kd.C k48 w A0_0 l0_0.length l0_0) (hc0_0 : l0_0.length ≤ c0_0) (hr1 : Kd.C k46 w A1 l1.length l1) (hc1 : l1.length ≤ c1) (hr2 : Kd.C (Kd.int .u8) w A2 l2.length l2) (hc2 : l2.length ≤ c2) (hG : Globs w) (hT_ : r = true) (h : winnowerlaw07_SchemaBack.f k l0_0 a0_1 a0_2 a0_3 a0_4 l1 l2 = some r) :
    Calls Tryd.prog 5 #[.agg #[.slice A0_0 l0_0.length c0_0, .int .i64 a0_1, .int .i64 a0_2, .int .i64 a0_3, .int .i64 a0_4], .slice A1 l1.length c1, .slice A2 l2.length c2] w fun e w' => e = .returned (.bool r) ∧ Below w.heap.size w w' := by
  have hu24 := Tryd.underlying24
  have HR0_0 := Aside0.mk hr0_0
  have HC0_0 := Aside0.mk hc0_0
  clear hr0_0 hc0_0
  have HR1 := Aside0.mk hr1
  have HC1 := Aside0.mk hc1
  clear hr1 hc1
  have HR2 := Aside0.mk hr2
  have HC2 := Aside0.mk hc2
  clear hr2 hc2
  have HGL := Aside0.mk hG
  clear hG
  have HTRUE := Aside0.mk hT_
  clear hT_
  have HB := Aside0.mk (Below.refl w.heap.size w)
  have H : ((winnowerlaw07_awake.f).bind fun t406 => ((winnowerref07_Few.f k l0_0 a0_1 a0_2 a0_3 a0_4).bind fun t407 => ((winnowerref07_Light.f k l1).bind fun t408 => (if t406 = true then (if t407 = true then (if t408 = true then (winnowerlaw07_SchemaBack.j0 k l1 l2 t406 (decide ((l2.length : Int) > 100)) l0_0 a0_1 a0_2 a0_3 a0_4) else (winnowerlaw07_SchemaBack.j0 k l1 l2 t406 true l0_0 a0_1 a0_2 a0_3 a0_4)) else (winnowerlaw07_SchemaBack.j0 k l1 l2 t406 true l0_0 a0_1 a0_2 a0_3 a0_4)) else (winnowerlaw07_SchemaBack.j0 k l1 l2 t406 true l0_0 a0_1 a0_2 a0_3 a0_4))))) = some r := h
  clear h
  replace H := Option.bind_eq_some_iff.mp H
  obtain ⟨t406, A40, H⟩ := H
  replace H : ((winnowerref07_Few.f k l0_0 a0_1 a0_2 a0_3 a0_4).bind fun t407 => ((winnowerref07_Light.f k l1).bind fun t408 => (if t406 = true then (if t407 = true then (if t408 = true then (winnowerlaw07_SchemaBack.j0 k l1 l2 t406 (decide ((l2.length : Int) > 100)) l0_0 a0_1 a0_2 a0_3 a0_4) else (winnowerlaw07_SchemaBack.j0 k l1 l2 t406 true l0_0 a0_1 a0_2 a0_3 a0_4)) else (winnowerlaw07_SchemaBack.j0 k l1 l2 t406 true l0_0 a0_1 a0_2 a0_3 a0_4)) else (winnowerlaw07_SchemaBack.j0 k l1 l2 t406 true l0_0 a0_1 a0_2 a0_3 a0_4)))) = some r := H
  have A4 := Aside0.mk A40
  clear A40
  replace H := Option.bind_eq_some_iff.mp H
  obtain ⟨t407, A50, H⟩ := H
  replace H : ((winnowerref07_Light.f k l1).bind fun t408 => (if t406 = true then (if t407 = true then (if t408 = true then (winnowerlaw07_SchemaBack.j0 k l1 l2 t406 (decide ((l2.length : Int) > 100)) l0_0 a0_1 a0_2 a0_3 a0_4) else (winnowerlaw07_SchemaBack.j0 k l1 l2 t406 true l0_0 a0_1 a0_2 a0_3 a0_4)) else (winnowerlaw07_SchemaBack.j0 k l1 l2 t406 true l0_0 a0_1 a0_2 a0_3 a0_4)) else (winnowerlaw07_SchemaBack.j0 k l1 l2 t406 true l0_0 a0_1 a0_2 a0_3 a0_4))) = some r := H
  have A5 := Aside0.mk A50
  clear A50
  replace H := Option.bind_eq_some_iff.mp H
  obtain ⟨t408, A60, H⟩ := H
  replace H : (if t406 = true then (if t407 = true then (if t408 = true then (winnowerlaw07_SchemaBack.j0 k l1 l2 t406 (decide ((l2.length : Int) > 100)) l0_0 a0_1 a0_2 a0_3 a0_4) else (winnowerlaw07_SchemaBack.j0 k l1 l2 t406 true l0_0 a0_1 a0_2 a0_3 a0_4)) else (winnowerlaw07_SchemaBack.j0 k l1 l2 t406 true l0_0 a0_1 a0_2 a0_3 a0_4)) else (winnowerlaw07_SchemaBack.j0 k l1 l2 t406 true l0_0 a0_1 a0_2 a0_3 a0_4)) = some r := H
  have A6 := Aside0.mk A60
  clear A60
  have HC7 := Aside0.mk H
  clear H
  go_enter Tryd.func5, Tryd.ntmps5
  go_upto_region 4 with (first | ((with_reducible refine gate_dst (N := 3) rfl ?_); (try (refine gate_guard (by rfl) ?_; dsimp only)); refine box_event ?hg (N := 3) ?hd (cs := #[.slice A0_0 l0_0.length c0_0, .int .i64 a0_1, .int .i64 a0_2, .int .i64 a0_3, .int .i64 a0_4]) (t := 24) ?hr ?_; (case hd => rfl); (case hg => rfl); (case hr => first | (go_simp; done) | (go_simp; rfl)); intro gb405 hg w8 hbox hb; have n0_ := Aside0.mk (below_step (by repeat (first | (with_reducible first | exact HB.out | apply below_alloc | apply pw_below_drewN | apply below_drew1) | exact HB.out)) hb); have n1_ := Aside0.mk (hbox); have n2_ := Aside0.mk ((by rw [hg]; exact (below_size (by repeat (first | (with_reducible first | exact HB.out | apply below_alloc | apply pw_below_drewN | apply below_drew1) | exact HB.out))) : w.heap.size ≤ gb405)); have n3_ := Aside0.mk ((by rw [hg]; exact (below_size (by repeat (first | (with_reducible first | exact HB.out | apply below_alloc | apply pw_below_drewN | apply below_drew1) | exact HB.out))) : w.heap.size ≤ gb405)); clear HB; have HB := n0_; have BK405 := n1_; have GW405 := n2_; have GE405 := n3_; clear n0_ n1_ n2_ n3_; clear hb hbox hg) | ((with_reducible refine gate_callee (f := 8) rfl ?_); refine goesL_ (some 17) rfl rfl Tryd.func8 (by kernel_rfl) rfl #[] rfl (by (try simp only [List.map_toArray, List.map_cons, List.map_nil]); first | done | rfl | (simp only [List.length_drop, List.length_take]; rfl)) ?_; (with_reducible refine (winnowerlaw07_awake.calls  t406 _ ?side1 A4.out).mono ?_); (case side1 => exact globs_below HGL.out (by repeat (first | (with_reducible first | exact HB.out | apply below_alloc | apply pw_below_drewN | apply below_drew1 | refine below_set ?_ GE405.out) | exact HB.out))); rintro e w9 ⟨rfl, hb⟩; refine ⟨_, rfl, ?_⟩; have n0_ := Aside0.mk (blk_below (g := gb405) (o := .cells #[.slice A0_0 l0_0.length c0_0, .int .i64 a0_1, .int .i64 a0_2, .int .i64 a0_3, .int .i64 a0_4] 24 (0, 0)) (by (with_reducible repeat (first | refine blk_drewN ?_ _ | refine blk_drew ?_ | refine blk_alloc ?_ _)); exact BK405.out) hb); have n1_ := Aside0.mk (below_step (by repeat (first | (with_reducible first | exact HB.out | apply below_alloc | apply pw_below_drewN | apply below_drew1 | refine below_set ?_ GE405.out) | exact HB.out)) hb); clear BK405; clear HB; have BK405 := n0_; have HB := n1_; clear n0_ n1_; (try clear hb); (try clear hb2); (try clear hk); (try clear hi); have hcz10_0 : w9.cell? ⟨gb405, 0, none⟩ = some (.slice A0_0 l0_0.length c0_0) := (blk_cell BK405.out 0).trans rfl; have hcz10_1 : w9.cell? ⟨gb405, 1, none⟩ = some (.int .i64 a0_1) := (blk_cell BK405.out 1).trans rfl; have hcz10_2 : w9.cell? ⟨gb405, 2, none⟩ = some (.int .i64 a0_2) := (blk_cell BK405.out 2).trans rfl; have hcz10_3 : w9.cell? ⟨gb405, 3, none⟩ = some (.int .i64 a0_3) := (blk_cell BK405.out 3).trans rfl; have hcz10_4 : w9.cell? ⟨gb405, 4, none⟩ = some (.int .i64 a0_4) := (blk_cell BK405.out 4).trans rfl; have hfz10_0 := blk_frozen BK405.out 0; have hfz10_1 := blk_frozen BK405.out 1; have hfz10_2 := blk_frozen BK405.out 2; have hfz10_3 := blk_frozen BK405.out 3; have hfz10_4 := blk_frozen BK405.out 4) | ((with_reducible refine gate_callee (f := 9) rfl ?_); refine goesL_ (some 19) rfl rfl Tryd.func9 (by kernel_rfl) rfl #[.agg #[.slice A0_0 l0_0.length c0_0, .int .i64 a0_1, .int .i64 a0_2, .int .i64 a0_3, .int .i64 a0_4]] rfl (by (try simp only [List.map_toArray, List.map_cons, List.map_nil]); first | done | rfl | (simp only [List.length_drop, List.length_take]; rfl)) ?_; (with_reducible refine (winnowerref07_Few.calls k _ _ l0_0 a0_1 a0_2 a0_3 a0_4 t407 _ ?side1 ?side2 A5.out).mono ?_); (case side1 => repeat (first | exact (Kd.C_below HR0_0.out HB.out) | (with_reducible refine Kd.C_alloc ?_ _) | (with_reducible refine Kd.C_drewN ?_ _) | (with_reducible refine Kd.C_drew ?_))); (case side2 => exact HC0_0.out); rintro e w11 ⟨rfl, hb⟩; refine ⟨_, rfl, ?_⟩; have n0_ := Aside0.mk (blk_below (g := gb405) (o := .cells #[.slice A0_0 l0_0.length c0_0, .int .i64 a0_1, .int .i64 a0_2, .int .i64 a0_3, .int .i64 a0_4] 24 (0, 0)) (by (with_reducible repeat (first | refine blk_drewN ?_ _ | refine blk_drew ?_ | refine blk_alloc ?_ _)); exact BK405.out) hb); have n1_ := Aside0.mk (below_step (by repeat (first | (with_reducible first | exact HB.out | apply below_alloc | apply pw_below_drewN | apply below_drew1 | refine below_set ?_ GE405.out) | exact HB.out)) hb); clear BK405; clear HB; have BK405 := n0_; have HB := n1_; clear n0_ n1_; (try clear hb); (try clear hb2); (try clear hk); (try clear hi)) | ((with_reducible refine gate_callee (f := 10) rfl ?_); refine goesL_ (some 21) rfl rfl Tryd.func10 (by kernel_rfl) rfl #[.slice A1 l1.length c1] rfl (by (try simp only [List.map_toArray, List.map_cons, List.map_nil]); first | done | rfl | (simp only [List.length_drop, List.length_take]; rfl)) ?_; (with_reducible refine (winnowerref07_Light.calls k _ _ l1 t408 _ ?side1 ?side2 A6.out).mono ?_); (case side1 => repeat (first | exact (Kd.C_below HR1.out HB.out) | (with_reducible refine Kd.C_alloc ?_ _) | (with_reducible refine Kd.C_drewN ?_ _) | (with_reducible refine Kd.C_drew ?_))); (case side2 => exact HC1.out); rintro e w' ⟨rfl, ⟨nd, rfl⟩⟩; refine ⟨_, rfl, ?_⟩))
  (try simp only [Act.put, List.setIfInBounds_toArray, List.set_cons_zero, List.set_cons_succ])
  go_cut [36] (fun v36 wc => ∃ (kq : Nat) (x36_6 : Bool), v36 = .bool x36_6 ∧ Aside0 (winnowerlaw07_SchemaBack.j0 kq l1 l2 t406 x36_6 l0_0 a0_1 a0_2 a0_3 a0_4 = some r) ∧ Aside0 (kq ≤ k) ∧ Aside0 (wc.heap[gb405]? = some (.cells #[(.slice A0_0 l0_0.length c0_0), .int .i64 a0_1, .int .i64 a0_2, .int .i64 a0_3, .int .i64 a0_4] 24 (0, 0))) ∧ Aside0 (Below w.heap.size w wc))
  case first =>
    have H := HC7.out
    clear HC7
    by_cases c12 : t406 = true
    · subst c12
      have H1 : (if t407 = true then (if t408 = true then (winnowerlaw07_SchemaBack.j0 k l1 l2 true (decide ((l2.length : Int) > 100)) l0_0 a0_1 a0_2 a0_3 a0_4) else (winnowerlaw07_SchemaBack.j0 k l1 l2 true true l0_0 a0_1 a0_2 a0_3 a0_4)) else (winnowerlaw07_SchemaBack.j0 k l1 l2 true true l0_0 a0_1 a0_2 a0_3 a0_4)) = some r := by rw [if_pos rfl] at H; exact H
      clear H
      have H := H1
      clear H1
      by_cases c13 : t407 = true
      · subst c13
        have H1 : (if t408 = true then (winnowerlaw07_SchemaBack.j0 k l1 l2 true (decide ((l2.length : Int) > 100)) l0_0 a0_1 a0_2 a0_3 a0_4) else (winnowerlaw07_SchemaBack.j0 k l1 l2 true true l0_0 a0_1 a0_2 a0_3 a0_4)) = some r := by rw [if_pos rfl] at H; exact H
        clear H
        have H := H1
        clear H1
        by_cases c14 : t408 = true
        · subst c14
          have H1 : (winnowerlaw07_SchemaBack.j0 k l1 l2 true (decide ((l2.length : Int) > 100)) l0_0 a0_1 a0_2 a0_3 a0_4) = some r := by rw [if_pos rfl] at H; exact H
          clear H
          have H := H1
          clear H1
          have H' := Aside0.mk H
          clear H
          go_wp2
          go_meet
          case rel => exact ⟨_, (decide ((l2.length : Int) > 100)), (by first | rfl | (simp; done) | (simp [*]; done)), H', ⟨by first | omega | exact Nat.le_refl _⟩, ⟨by (with_reducible repeat (first | refine blk_drewN ?_ _ | refine blk_drew ?_ | refine blk_alloc ?_ _)); exact BK405.out⟩, ⟨by repeat (first | (with_reducible first | exact HB.out | apply below_alloc | apply pw_below_drewN | apply below_drew1 | refine below_set ?_ GE405.out) | exact HB.out)⟩⟩
        · replace c14 := Bool.eq_false_iff.mpr c14
          subst c14
          have H1 : (winnowerlaw07_SchemaBack.j0 k l1 l2 true true l0_0 a0_1 a0_2 a0_3 a0_4) = some r := by rw [if_neg (show ¬ (false = true) by decide)] at H; exact H
          clear H
          have H := H1
          clear H1
          have H' := Aside0.mk H
          clear H
          go_wp2
          go_meet
          case rel => exact ⟨_, (true), (by first | rfl | (simp; done) | (simp [*]; done)), H', ⟨by first | omega | exact Nat.le_refl _⟩, ⟨by (with_reducible repeat (first | refine blk_drewN ?_ _ | refine blk_drew ?_ | refine blk_alloc ?_ _)); exact BK405.out⟩, ⟨by repeat (first | (with_reducible first | exact HB.out | apply below_alloc | apply pw_below_drewN | apply below_drew1 | refine below_set ?_ GE405.out) | exact HB.out)⟩⟩
      · replace c13 := Bool.eq_false_iff.mpr c13
        subst c13
        have H1 : (winnowerlaw07_SchemaBack.j0 k l1 l2 true true l0_0 a0_1 a0_2 a0_3 a0_4) = some r := by rw [if_neg (show ¬ (false = true) by decide)] at H; exact H
        clear H
        have H := H1
        clear H1
        have H' := Aside0.mk H
        clear H
        go_wp2
        go_meet
        case rel => exact ⟨_, (true), (by first | rfl | (simp; done) | (simp [*]; done)), H', ⟨by first | omega | exact Nat.le_refl _⟩, ⟨by (with_reducible repeat (first | refine blk_drewN ?_ _ | refine blk_drew ?_ | refine blk_alloc ?_ _)); exact BK405.out⟩, ⟨by repeat (first | (with_reducible first | exact HB.out | apply below_alloc | apply pw_below_drewN | apply below_drew1 | refine below_set ?_ GE405.out) | exact HB.out)⟩⟩
    · replace c12 := Bool.eq_false_iff.mpr c12
      subst c12
      have H1 : (winnowerlaw07_SchemaBack.j0 k l1 l2 false true l0_0 a0_1 a0_2 a0_3 a0_4) = some r := by rw [if_neg (show ¬ (false = true) by decide)] at H; exact H
      clear H
      have H := H1
      clear H1
      have H' := Aside0.mk H
      clear H
      go_wp2
      go_meet
      case rel => exact ⟨_, (true), (by first | rfl | (simp; done) | (simp [*]; done)), H', ⟨by first | omega | exact Nat.le_refl _⟩, ⟨by (with_reducible repeat (first | refine blk_drewN ?_ _ | refine blk_drew ?_ | refine blk_alloc ?_ _)); exact BK405.out⟩, ⟨by repeat (first | (with_reducible first | exact HB.out | apply below_alloc | apply pw_below_drewN | apply below_drew1 | refine below_set ?_ GE405.out) | exact HB.out)⟩⟩
  case rest =>
    clear HC7
    try clear c1
    try clear c2
    try clear p2
    try clear c5
    try clear c8
    try clear c9
    try clear c10
    try clear c12
    try clear c13
    try clear c14
    try clear hcz10_0
    try clear hcz10_1
    try clear hcz10_2
    try clear hcz10_3
    try clear hcz10_4
    try clear hfz10_0
    try clear hfz10_1
    try clear hfz10_2
    try clear hfz10_3
    try clear hfz10_4
    obtain ⟨kq, x36_6, rfl, HA, HJ6, BK405, HB⟩ := hcut
    cases kq with
    | zero => exact absurd HA.out (by simp [winnowerlaw07_SchemaBack.j0])
    | succ kj6 =>
      have H := HA.out
      clear HA
      simp only [winnowerlaw07_SchemaBack.j0] at H
      by_cases c15 : x36_6 = true
      · subst c15
        have H1 : (some t406) = some r := by rw [if_pos rfl] at H; exact H
        clear H
        have H := H1
        clear H1
        obtain rfl := Option.some.inj H
        go_wp2
        go_ret
        exact ⟨by first | rfl | (simp [errW_none, errW_some] <;> rfl) | (refine congrArg (fun b_ : Bool => Ending.returned (Value.bool b_)) ?_; simp; done) | (simp [*, errW_none, errW_some] <;> rfl), by repeat (first | (with_reducible first | exact HB.out | apply below_alloc | apply pw_below_drewN | apply below_drew1 | refine below_set ?_ GE405.out) | exact HB.out)⟩
      · replace c15 := Bool.eq_false_iff.mpr c15
        subst c15
        have H1 : ((schema_Encode.f kj6 l0_0 a0_1 a0_2 a0_3 a0_4 l1).bind fun bt409 => ((schema_Fits.f kj6 l0_0 a0_1 a0_2 a0_3 a0_4 l1).bind fun t413 => (if t413 = true then ((schema_Decode.f l0_0 a0_1 a0_2 a0_3 a0_4 bt409.1).bind fun bt414 => ((winnowerref06_Same.f kj6 bt414.1 l1).bind fun t418 => (if (l2.length : Int) > 0 then (if ([] : List Int).length + bt409.1.length < 140737488355328 then ((some (([] : List Int) ++ bt409.1 : List Int)).bind fun y419 => (if y419.length + l2.length < 140737488355328 then ((schema_Decode.f l0_0 a0_1 a0_2 a0_3 a0_4 (y419 ++ l2)).bind fun bt425 => (if bt425.2 = 7 then (if bt409.2 = 0 then (if bt414.2 = 0 then (some t418) else (some false)) else (some false)) else (some false))) else (none))) else (none)) else (if bt409.2 = 0 then (if bt414.2 = 0 then (some t418) else (some false)) else (some false))))) else (if bt409.2 = 1 then (some ((bt409.1.length : Int) == 0)) else (some false))))) = some r := by rw [if_neg (show ¬ (false = true) by decide)] at H; exact H
        clear H
        have H := H1
        clear H1
        replace H := Option.bind_eq_some_iff.mp H
        obtain ⟨⟨t409, t412⟩, A160, H⟩ := H
        replace H : ((schema_Fits.f kj6 l0_0 a0_1 a0_2 a0_3 a0_4 l1).bind fun t413 => (if t413 = true then ((schema_Decode.f l0_0 a0_1 a0_2 a0_3 a0_4 t409).bind fun bt414 => ((winnowerref06_Same.f kj6 bt414.1 l1).bind fun t418 => (if (l2.length : Int) > 0 then (if ([] : List Int).length + t409.length < 140737488355328 then ((some (([] : List Int) ++ t409 : List Int)).bind fun y419 => (if y419.length + l2.length < 140737488355328 then ((schema_Decode.f l0_0 a0_1 a0_2 a0_3 a0_4 (y419 ++ l2)).bind fun bt425 => (if bt425.2 = 7 then (if t412 = 0 then (if bt414.2 = 0 then (some t418) else (some false)) else (some false)) else (some false))) else (none))) else (none)) else (if t412 = 0 then (if bt414.2 = 0 then (some t418) else (some false)) else (some false))))) else (if t412 = 1 then (some ((t409.length : Int) == 0)) else (some false)))) = some r := H
        have A16 := Aside0.mk A160
        clear A160
        replace H := Option.bind_eq_some_iff.mp H
        obtain ⟨t413, A170, H⟩ := H
        replace H : (if t413 = true then ((schema_Decode.f l0_0 a0_1 a0_2 a0_3 a0_4 t409).bind fun bt414 => ((winnowerref06_Same.f kj6 bt414.1 l1).bind fun t418 => (if (l2.length : Int) > 0 then (if ([] : List Int).length + t409.length < 140737488355328 then ((some (([] : List Int) ++ t409 : List Int)).bind fun y419 => (if y419.length + l2.length < 140737488355328 then ((schema_Decode.f l0_0 a0_1 a0_2 a0_3 a0_4 (y419 ++ l2)).bind fun bt425 => (if bt425.2 = 7 then (if t412 = 0 then (if bt414.2 = 0 then (some t418) else (some false)) else (some false)) else (some false))) else (none))) else (none)) else (if t412 = 0 then (if bt414.2 = 0 then (some t418) else (some false)) else (some false))))) else (if t412 = 1 then (some ((t409.length : Int) == 0)) else (some false))) = some r := H
        have A17 := Aside0.mk A170
        clear A170
        by_cases c18 : t413 = true
        · subst c18
          have H1 : ((schema_Decode.f l0_0 a0_1 a0_2 a0_3 a0_4 t409).bind fun bt414 => ((winnowerref06_Same.f kj6 bt414.1 l1).bind fun t418 => (if (l2.length : Int) > 0 then (if ([] : List Int).length + t409.length < 140737488355328 then ((some (([] : List Int) ++ t409 : List Int)).bind fun y419 => (if y419.length + l2.length < 140737488355328 then ((schema_Decode.f l0_0 a0_1 a0_2 a0_3 a0_4 (y419 ++ l2)).bind fun bt425 => (if bt425.2 = 7 then (if t412 = 0 then (if bt414.2 = 0 then (some t418) else (some false)) else (some false)) else (some false))) else (none))) else (none)) else (if t412 = 0 then (if bt414.2 = 0 then (some t418) else (some false)) else (some false))))) = some r := by rw [if_pos rfl] at H; exact H
          clear H
          have H := H1
          clear H1
          replace H := Option.bind_eq_some_iff.mp H
          obtain ⟨⟨t414, t417⟩, A190, H⟩ := H
          replace H : ((winnowerref06_Same.f kj6 t414 l1).bind fun t418 => (if (l2.length : Int) > 0 then (if ([] : List Int).length + t409.length < 140737488355328 then ((some (([] : List Int) ++ t409 : List Int)).bind fun y419 => (if y419.length + l2.length < 140737488355328 then ((schema_Decode.f l0_0 a0_1 a0_2 a0_3 a0_4 (y419 ++ l2)).bind fun bt425 => (if bt425.2 = 7 then (if t412 = 0 then (if t417 = 0 then (some t418) else (some false)) else (some false)) else (some false))) else (none))) else (none)) else (if t412 = 0 then (if t417 = 0 then (some t418) else (some false)) else (some false)))) = some r := H
          have A19 := Aside0.mk A190
          clear A190
          replace H := Option.bind_eq_some_iff.mp H
          obtain ⟨t418, A200, H⟩ := H
          replace H : (if (l2.length : Int) > 0 then (if ([] : List Int).length + t409.length < 140737488355328 then ((some (([] : List Int) ++ t409 : List Int)).bind fun y419 => (if y419.length + l2.length < 140737488355328 then ((schema_Decode.f l0_0 a0_1 a0_2 a0_3 a0_4 (y419 ++ l2)).bind fun bt425 => (if bt425.2 = 7 then (if t412 = 0 then (if t417 = 0 then (some t418) else (some false)) else (some false)) else (some false))) else (none))) else (none)) else (if t412 = 0 then (if t417 = 0 then (some t418) else (some false)) else (some false))) = some r := H
          have A20 := Aside0.mk A200
          clear A200
          by_cases c21 : (l2.length : Int) > 0
          · rw [if_pos c21] at H
            have c21b0 : decide (0 < (l2.length : Int)) = true := decide_eq_true c21
            have c21b1 : decide (0 < l2.length) = true := decide_eq_true (by omega)
            clear c21
            by_cases c22 : ([] : List Int).length + t409.length < 140737488355328
            · rw [if_pos c22] at H
              have LMc22 := Aside0.mk c22
              clear c22
              obtain ⟨y419, hy419⟩ : ∃ y_ : List Int, y_ = (([] : List Int) ++ t409) := ⟨_, rfl⟩
              replace H : (if y419.length + l2.length < 140737488355328 then ((schema_Decode.f l0_0 a0_1 a0_2 a0_3 a0_4 (y419 ++ l2)).bind fun bt425 => (if bt425.2 = 7 then (if t412 = 0 then (if t417 = 0 then (some t418) else (some false)) else (some false)) else (some false))) else (none)) = some r := by first | (rw [hy419]; with_reducible exact H) | (have H2_ := (Option.bind_some _ _).symm.trans H; rw [hy419]; with_reducible exact H2_) | (have H2_ := (Option.bind_some _ _).symm.trans H; with_reducible exact H2_) | with_reducible exact H | (rw [hy419]; exact H) | exact H
              have Ny419 := Aside0.mk hy419
              clear hy419
              by_cases c23 : y419.length + l2.length < 140737488355328
              · rw [if_pos c23] at H
                have LMc23 := Aside0.mk c23
                clear c23
                obtain ⟨y422, hy422⟩ : ∃ y_ : List Int, y_ = (y419 ++ l2) := ⟨_, rfl⟩
                replace H : ((schema_Decode.f l0_0 a0_1 a0_2 a0_3 a0_4 y422).bind fun bt425 => (if bt425.2 = 7 then (if t412 = 0 then (if t417 = 0 then (some t418) else (some false)) else (some false)) else (some false))) = some r := by first | (rw [hy422]; with_reducible exact H) | (have H2_ := (Option.bind_some _ _).symm.trans H; rw [hy422]; with_reducible exact H2_) | (have H2_ := (Option.bind_some _ _).symm.trans H; with_reducible exact H2_) | with_reducible exact H | (rw [hy422]; exact H) | exact H
                have Ny422 := Aside0.mk hy422
                clear hy422
                replace H := Option.bind_eq_some_iff.mp H
                obtain ⟨⟨t425, t428⟩, A240, H⟩ := H
                replace H : (if t428 = 7 then (if t412 = 0 then (if t417 = 0 then (some t418) else (some false)) else (some false)) else (some false)) = some r := H
                have A24 := Aside0.mk A240
                clear A240
                by_cases c25 : t428 = 7
                · rw [if_pos c25] at H
                  have c25b0 : (t428 == 7) = true := beq_iff_eq.mpr c25
                  have c25b1 : (t428 != 7) = false := bne_eq_false_iff_eq.mpr c25
                  clear c25
                  by_cases c26 : t412 = 0
                  · rw [if_pos c26] at H
                    have c26b0 : (t412 == 0) = true := beq_iff_eq.mpr c26
                    have c26b1 : (t412 != 0) = false := bne_eq_false_iff_eq.mpr c26
                    clear c26
                    by_cases c27 : t417 = 0
                    · rw [if_pos c27] at H
                      have c27b0 : (t417 == 0) = true := beq_iff_eq.mpr c27
                      have c27b1 : (t417 != 0) = false := bne_eq_false_iff_eq.mpr c27
                      clear c27
                      obtain rfl := Option.some.inj H
                      have hcz28_0 : wc.cell? ⟨gb405, 0, none⟩ = some (.slice A0_0 l0_0.length c0_0) := (blk_cell BK405.out 0).trans rfl
                      have hcz28_1 : wc.cell? ⟨gb405, 1, none⟩ = some (.int .i64 a0_1) := (blk_cell BK405.out 1).trans rfl
                      have hcz28_2 : wc.cell? ⟨gb405, 2, none⟩ = some (.int .i64 a0_2) := (blk_cell BK405.out 2).trans rfl
                      have hcz28_3 : wc.cell? ⟨gb405, 3, none⟩ = some (.int .i64 a0_3) := (blk_cell BK405.out 3).trans rfl
                      have hcz28_4 : wc.cell? ⟨gb405, 4, none⟩ = some (.int .i64 a0_4) := (blk_cell BK405.out 4).trans rfl
                      have hfz28_0 := blk_frozen BK405.out 0
                      have hfz28_1 := blk_frozen BK405.out 1
                      have hfz28_2 := blk_frozen BK405.out 2
                      have hfz28_3 := blk_frozen BK405.out 3
                      have hfz28_4 := blk_frozen BK405.out 4
                      try go_wp2_with (first | ((with_reducible refine gate_callee (f := 11) rfl ?_); refine goesL_ (some 41) rfl rfl Tryd.func11 (by kernel_rfl) rfl #[.agg #[.slice A0_0 l0_0.length c0_0, .int .i64 a0_1, .int .i64 a0_2, .int .i64 a0_3, .int .i64 a0_4], .slice A1 l1.length c1] rfl (by (try simp only [List.map_toArray, List.map_cons, List.map_nil]); first | done | rfl | (simp only [List.length_drop, List.length_take]; rfl)) ?_; (with_reducible refine (schema_Encode.calls kj6 _ _ l0_0 a0_1 a0_2 a0_3 a0_4 _ _ l1 t409 t412 _ ?side1 ?side2 ?side3 ?side4 A16.out).mono ?_); (case side1 => repeat (first | exact (Kd.C_below HR0_0.out HB.out) | (with_reducible refine Kd.C_alloc ?_ _) | (with_reducible refine Kd.C_drewN ?_ _) | (with_reducible refine Kd.C_drew ?_))); (case side2 => exact HC0_0.out); (case side3 => repeat (first | exact (Kd.C_below HR1.out HB.out) | (with_reducible refine Kd.C_alloc ?_ _) | (with_reducible refine Kd.C_drewN ?_ _) | (with_reducible refine Kd.C_drew ?_))); (case side4 => exact HC1.out); rintro e w29 ⟨v410, rfl, ho0, hb⟩; refine ⟨_, rfl, ?_⟩; have n0_ := Aside0.mk (Kd.R_lower ho0 (below_size (by repeat (first | (with_reducible first | exact HB.out | apply below_alloc | apply pw_below_drewN | apply below_drew1 | refine below_set ?_ GE405.out) | exact HB.out)))); have n1_ := Aside0.mk (blk_below (g := gb405) (o := .cells #[.slice A0_0 l0_0.length c0_0, .int .i64 a0_1, .int .i64 a0_2, .int .i64 a0_3, .int .i64 a0_4] 24 (0, 0)) (by (with_reducible repeat (first | refine blk_drewN ?_ _ | refine blk_drew ?_ | refine blk_alloc ?_ _)); exact BK405.out) hb); have n2_ := Aside0.mk (below_step (by repeat (first | (with_reducible first | exact HB.out | apply below_alloc | apply pw_below_drewN | apply below_drew1 | refine below_set ?_ GE405.out) | exact HB.out)) hb); clear BK405; clear HB; have HO411 := n0_; have BK405 := n1_; have HB := n2_; clear n0_ n1_ n2_; (try clear hb); (try clear hb2); (try clear hk); (try clear hi); (try clear ho0); have hcz30_0 : w29.cell? ⟨gb405, 0, none⟩ = some (.slice A0_0 l0_0.length c0_0) := (blk_cell BK405.out 0).trans rfl; have hcz30_1 : w29.cell? ⟨gb405, 1, none⟩ = some (.int .i64 a0_1) := (blk_cell BK405.out 1).trans rfl; have hcz30_2 : w29.cell? ⟨gb405, 2, none⟩ = some (.int .i64 a0_2) := (blk_cell BK405.out 2).trans rfl; have hcz30_3 : w29.cell? ⟨gb405, 3, none⟩ = some (.int .i64 a0_3) := (blk_cell BK405.out 3).trans rfl; have hcz30_4 : w29.cell? ⟨gb405, 4, none⟩ = some (.int .i64 a0_4) := (blk_cell BK405.out 4).trans rfl; have hfz30_0 := blk_frozen BK405.out 0; have hfz30_1 := blk_frozen BK405.out 1; have hfz30_2 := blk_frozen BK405.out 2; have hfz30_3 := blk_frozen BK405.out 3; have hfz30_4 := blk_frozen BK405.out 4) | ((with_reducible refine gate_callee (f := 18) rfl ?_); refine goesL_ (some 46) rfl rfl Tryd.func18 (by kernel_rfl) rfl #[.agg #[.slice A0_0 l0_0.length c0_0, .int .i64 a0_1, .int .i64 a0_2, .int .i64 a0_3, .int .i64 a0_4], .slice A1 l1.length c1] rfl (by (try simp only [List.map_toArray, List.map_cons, List.map_nil]); first | done | rfl | (simp only [List.length_drop, List.length_take]; rfl)) ?_; (with_reducible refine (schema_Fits.calls kj6 _ _ l0_0 a0_1 a0_2 a0_3 a0_4 _ _ l1 true _ ?side1 ?side2 ?side3 ?side4 A17.out).mono ?_); (case side1 => repeat (first | exact (Kd.C_below HR0_0.out HB.out) | (with_reducible refine Kd.C_alloc ?_ _) | (with_reducible refine Kd.C_drewN ?_ _) | (with_reducible refine Kd.C_drew ?_))); (case side2 => exact HC0_0.out); (case side3 => repeat (first | exact (Kd.C_below HR1.out HB.out) | (with_reducible refine Kd.C_alloc ?_ _) | (with_reducible refine Kd.C_drewN ?_ _) | (with_reducible refine Kd.C_drew ?_))); (case side4 => exact HC1.out); rintro e w31 ⟨rfl, hb⟩; refine ⟨_, rfl, ?_⟩; have n0_ := Aside0.mk (Kd.R_below (by (with_reducible repeat (first | apply Kd.R_alloc | apply Kd.R_drewN | apply Kd.R_drew)); exact HO411.out) hb); have n1_ := Aside0.mk (blk_below (g := gb405) (o := .cells #[.slice A0_0 l0_0.length c0_0, .int .i64 a0_1, .int .i64 a0_2, .int .i64 a0_3, .int .i64 a0_4] 24 (0, 0)) (by (with_reducible repeat (first | refine blk_drewN ?_ _ | refine blk_drew ?_ | refine blk_alloc ?_ _)); exact BK405.out) hb); have n2_ := Aside0.mk (below_step (by repeat (first | (with_reducible first | exact HB.out | apply below_alloc | apply pw_below_drewN | apply below_drew1 | refine below_set ?_ GE405.out) | exact HB.out)) hb); clear HO411; clear BK405; clear HB; have HO411 := n0_; have BK405 := n1_; have HB := n2_; clear n0_ n1_ n2_; (try clear hb); (try clear hb2); (try clear hk); (try clear hi); have hcz32_0 : w31.cell? ⟨gb405, 0, none⟩ = some (.slice A0_0 l0_0.length c0_0) := (blk_cell BK405.out 0).trans rfl; have hcz32_1 : w31.cell? ⟨gb405, 1, none⟩ = some (.int .i64 a0_1) := (blk_cell BK405.out 1).trans rfl; have hcz32_2 : w31.cell? ⟨gb405, 2, none⟩ = some (.int .i64 a0_2) := (blk_cell BK405.out 2).trans rfl; have hcz32_3 : w31.cell? ⟨gb405, 3, none⟩ = some (.int .i64 a0_3) := (blk_cell BK405.out 3).trans rfl; have hcz32_4 : w31.cell? ⟨gb405, 4, none⟩ = some (.int .i64 a0_4) := (blk_cell BK405.out 4).trans rfl; have hfz32_0 := blk_frozen BK405.out 0; have hfz32_1 := blk_frozen BK405.out 1; have hfz32_2 := blk_frozen BK405.out 2; have hfz32_3 := blk_frozen BK405.out 3; have hfz32_4 := blk_frozen BK405.out 4; obtain ⟨Ao33, co33, eo33⟩ := Kd.R_slice HO411.out; subst eo33) | ((with_reducible refine gate_callee (f := 20) rfl ?_); refine goesL_ (some 58) rfl rfl Tryd.func20 (by kernel_rfl) rfl #[.agg #[.slice A0_0 l0_0.length c0_0, .int .i64 a0_1, .int .i64 a0_2, .int .i64 a0_3, .int .i64 a0_4], .slice Ao33 t409.length co33] rfl (by (try simp only [List.map_toArray, List.map_cons, List.map_nil]); first | done | rfl | (simp only [List.length_drop, List.length_take]; rfl)) ?_; (with_reducible refine (schema_Decode.calls _ _ l0_0 a0_1 a0_2 a0_3 a0_4 _ _ t409 t414 t417 _ ?side1 ?side2 ?side3 ?side4 ?side5 A19.out).mono ?_); (case side1 => repeat (first | exact (Kd.C_below HR0_0.out HB.out) | (with_reducible refine Kd.C_alloc ?_ _) | (with_reducible refine Kd.C_drewN ?_ _) | (with_reducible refine Kd.C_drew ?_))); (case side2 => exact HC0_0.out); (case side3 => repeat (first | exact (Kd.R_reads' HO411.out).2.2 | (with_reducible refine Kd.C_alloc ?_ _) | (with_reducible refine Kd.C_drewN ?_ _) | (with_reducible refine Kd.C_drew ?_))); (case side4 => exact (Kd.R_reads' HO411.out).2.1); (case side5 => exact globs_below HGL.out (by repeat (first | (with_reducible first | exact HB.out | apply below_alloc | apply pw_below_drewN | apply below_drew1 | refine below_set ?_ GE405.out) | exact HB.out))); rintro e w34 ⟨v415, rfl, ho0, hb⟩; refine ⟨_, rfl, ?_⟩; have n0_ := Aside0.mk (Kd.R_below (by (with_reducible repeat (first | apply Kd.R_alloc | apply Kd.R_drewN | apply Kd.R_drew)); exact HO411.out) hb); have n1_ := Aside0.mk (Kd.R_lower ho0 (below_size (by repeat (first | (with_reducible first | exact HB.out | apply below_alloc | apply pw_below_drewN | apply below_drew1 | refine below_set ?_ GE405.out) | exact HB.out)))); have n2_ := Aside0.mk (blk_below (g := gb405) (o := .cells #[.slice A0_0 l0_0.length c0_0, .int .i64 a0_1, .int .i64 a0_2, .int .i64 a0_3, .int .i64 a0_4] 24 (0, 0)) (by (with_reducible repeat (first | refine blk_drewN ?_ _ | refine blk_drew ?_ | refine blk_alloc ?_ _)); exact BK405.out) hb); have n3_ := Aside0.mk (below_step (by repeat (first | (with_reducible first | exact HB.out | apply below_alloc | apply pw_below_drewN | apply below_drew1 | refine below_set ?_ GE405.out) | exact HB.out)) hb); clear HO411; clear BK405; clear HB; have HO411 := n0_; have HO416 := n1_; have BK405 := n2_; have HB := n3_; clear n0_ n1_ n2_ n3_; (try clear hb); (try clear hb2); (try clear hk); (try clear hi); (try clear ho0); obtain ⟨Ao35, co35, eo35⟩ := Kd.R_slice HO416.out; subst eo35) | ((with_reducible refine gate_callee (f := 22) rfl ?_); refine goesL_ (some 63) rfl rfl Tryd.func22 (by kernel_rfl) rfl #[.slice Ao35 t414.length co35, .slice A1 l1.length c1] rfl (by (try simp only [List.map_toArray, List.map_cons, List.map_nil]); first | done | rfl | (simp only [List.length_drop, List.length_take]; rfl)) ?_; (with_reducible refine (winnowerref06_Same.calls kj6 _ _ t414 _ _ l1 t418 _ ?side1 ?side2 ?side3 ?side4 A20.out).mono ?_); (case side1 => repeat (first | exact (Kd.R_reads' HO416.out).2.2 | (with_reducible refine Kd.C_alloc ?_ _) | (with_reducible refine Kd.C_drewN ?_ _) | (with_reducible refine Kd.C_drew ?_))); (case side2 => exact (Kd.R_reads' HO416.out).2.1); (case side3 => repeat (first | exact (Kd.C_below HR1.out HB.out) | (with_reducible refine Kd.C_alloc ?_ _) | (with_reducible refine Kd.C_drewN ?_ _) | (with_reducible refine Kd.C_drew ?_))); (case side4 => exact HC1.out); rintro e w' ⟨rfl, ⟨nd, rfl⟩⟩; refine ⟨_, rfl, ?_⟩))
                      (try (rw [drewN_self w34]; generalize hq_ : World.drewN w34 _ = w34; have n0_ : Aside0 (Kd.R (Kd.int .u8) 5 w34 w.heap.size (fun _ => True) (.slice Ao33 t409.length co33) t409) := ⟨by rw [← hq_]; exact (by (with_reducible repeat (first | apply Kd.R_alloc | apply Kd.R_drewN | apply Kd.R_drew)); exact HO411.out)⟩; have n1_ : Aside0 (Kd.R k46 46 w34 w.heap.size (fun _ => True) (.slice Ao35 t414.length co35) t414) := ⟨by rw [← hq_]; exact (by (with_reducible repeat (first | apply Kd.R_alloc | apply Kd.R_drewN | apply Kd.R_drew)); exact HO416.out)⟩; have n2_ : Aside0 (w34.heap[gb405]? = some (.cells #[.slice A0_0 l0_0.length c0_0, .int .i64 a0_1, .int .i64 a0_2, .int .i64 a0_3, .int .i64 a0_4] 24 (0, 0))) := ⟨by rw [← hq_]; exact (by (with_reducible repeat (first | refine blk_drewN ?_ _ | refine blk_drew ?_ | refine blk_alloc ?_ _)); exact BK405.out)⟩; have n3_ : Aside0 (Below w.heap.size w w34) := ⟨by rw [← hq_]; exact (by repeat (first | (with_reducible first | exact HB.out | apply below_alloc | apply pw_below_drewN | apply below_drew1 | refine below_set ?_ GE405.out) | exact HB.out))⟩; clear HO411 HO416 BK405 HB hq_; have HO411 := n0_; have HO416 := n1_; have BK405 := n2_; have HB := n3_; clear n0_ n1_ n2_ n3_))
                      have n0_ := Aside0.mk (Kd.R_drew HO411.out); have n2_ := Aside0.mk (blk_drew BK405.out); have n3_ := Aside0.mk (below_drew1 HB.out); clear HO411; clear HO416; clear BK405; clear HB; have HO411 := n0_; have BK405 := n2_; have HB := n3_; clear n0_ n2_ n3_
                      refine start_ (n := 11) (S := fun w' => w'.cell? ⟨gb405, 0, none⟩ = some (.slice A0_0 l0_0.length c0_0) ∧ w'.cell? ⟨gb405, 1, none⟩ = some (.int .i64 a0_1) ∧ w'.cell? ⟨gb405, 2, none⟩ = some (.int .i64 a0_2) ∧ w'.cell? ⟨gb405, 3, none⟩ = some (.int .i64 a0_3) ∧ w'.cell? ⟨gb405, 4, none⟩ = some (.int .i64 a0_4)) (ds := []) #[false, false, false, false, false, false, false, false, false, false, false] (by kernel_rfl) rfl rfl ⟨(blk_cell BK405.out 0).trans rfl, (blk_cell BK405.out 1).trans rfl, (blk_cell BK405.out 2).trans rfl, (blk_cell BK405.out 3).trans rfl, (blk_cell BK405.out 4).trans rfl⟩ (fun hHeld => ?_); refine with_tabW winnowerlaw07_SchemaBack.tab12 winnowerlaw07_SchemaBack.bits12 (fun HT_ HW_ => ?_)
                      generalize w34.drew = w36 at HO411 BK405 HB hHeld ⊢
                      refine pure_ (i := 1) (N := some 69) (v := ?_) (a' := ?_) #[false, true, false, false, false, false, false, false, false, false, false] rfl rfl (any_of HT_.out (by kernel_rfl)) (fun _ _ _ h => h) (Or.inl ⟨by rfl, ?_⟩) ?_ ?_
                      rotate_left
                      · intro w'
                        go_simp
                        with_reducible rfl
                      rotate_left
                      · simp only [Act.put, List.setIfInBounds_toArray, List.set_cons_zero, List.set_cons_succ, i64_w, i32_w]
                        rfl
                      refine pure_ (i := 3) (N := some 71) (v := ?_) (a' := ?_) #[false, true, false, true, false, false, false, false, false, false, false] rfl rfl (any_of HT_.out (by kernel_rfl)) (fun _ _ _ h => h) (Or.inl ⟨by rfl, ?_⟩) ?_ ?_
                      rotate_left
                      · intro w'
                        go_simp
                        with_reducible rfl
                      rotate_left
                      · simp only [Act.put, List.setIfInBounds_toArray, List.set_cons_zero, List.set_cons_succ, i64_w, i32_w]
                        rfl
                      refine take_ (i := 0) (N := some 68) (v := ?_) (a' := ?_) #[true, true, false, true, false, false, false, false, false, false, false] rfl rfl (take_ofW HT_.out HW_.out (by kernel_rfl)) (fun _ _ _ h => h) (Or.inl ⟨by rfl, ?_⟩) hHeld ?_ ?_
                      rotate_left
                      · rintro w' ⟨s0, s1, s2, s3, s4⟩
                        go_simp
                        with_reducible rfl
                      rotate_left
                      · simp only [Act.put, List.setIfInBounds_toArray, List.set_cons_zero, List.set_cons_succ, i64_w, i32_w]
                        rfl
                      refine one_ (i := 2) (N := some 70) #[true, true, true, true, false, false, false, false, false, false, false] rfl rfl (one_of HT_.out (by kernel_rfl)) (by decide) (fun K hK => ?_)
                      refine Kd.R_append_rows_step (Kd.int .u8) (w0 := w) w.heap.size rfl (.const (.slice none 0 0)) (.tmp 69) 29 5 (.int .u8 0) 1 rfl Tryd.underlying29 info5 rfl (by decide) (by omega) (.slice none 0 0) ([] : List Int) t409 _ _ _ (fun k_ => some k_ ≠ (.slice Ao33 t409.length co33 : Value).ownBlock) (fun _ => False) rfl rfl ?aO ?aR (fun _ _ h => h) (fun _ h => h.elim) ?aF ?aB ?aS ?aL ?_
                      (case aR => repeat (first | exact (Kd.R_reads' HO411.out).2.2 | (with_reducible refine Kd.C_alloc ?_ _) | (with_reducible refine Kd.C_drewN ?_ _) | (with_reducible refine Kd.C_drew ?_)))
                      (case aB => exact (by repeat (first | (with_reducible first | exact HB.out | apply below_alloc | apply pw_below_drewN | apply below_drew1 | refine below_set ?_ GE405.out) | exact HB.out)))
                      (case aF => exact (fun k_ hk => Kd.fresh' (Kd.R_lt (by (with_reducible repeat (first | apply Kd.R_alloc | apply Kd.R_drewN | apply Kd.R_drew)); exact HO411.out)) k_ hk))
                      (case aO => exact ((Kd.R_nil _ _ _ _ (fun k_ => some k_ ≠ (.slice Ao33 t409.length co33 : Value).ownBlock))))
                      (case aS => exact (below_size (by repeat (first | (with_reducible first | exact HB.out | apply below_alloc | apply pw_below_drewN | apply below_drew1 | refine below_set ?_ GE405.out) | exact HB.out))))
                      (case aL => have := LMc22.out; omega)
                      intro v420 w37 ho hb hg hat
                      rw [← Ny419.out] at ho
                      have n0_ := Aside0.mk (blk_grown (g := gb405) (o := .cells #[.slice A0_0 l0_0.length c0_0, .int .i64 a0_1, .int .i64 a0_2, .int .i64 a0_3, .int .i64 a0_4] 24 (0, 0)) (by (with_reducible repeat (first | refine blk_drewN ?_ _ | refine blk_drew ?_ | refine blk_alloc ?_ _)); exact BK405.out) hg (by simp [Value.ownBlock])); have n1_ := Aside0.mk (Kd.R_after (Kd.R_apart_nil (by (with_reducible repeat (first | apply Kd.R_alloc | apply Kd.R_drewN | apply Kd.R_drew)); exact HO411.out)) hg hat); have n3_ := Aside0.mk (hb); have n4_ := Aside0.mk (ho); clear BK405; clear HO411; clear HB; have BK405 := n0_; have HO411 := n1_; have HB := n3_; have HO421 := n4_; clear n0_ n1_ n3_ n4_; clear ho hb hg hat
                      refine hK.out _ _ ⟨(blk_cell BK405.out 0).trans rfl, (blk_cell BK405.out 1).trans rfl, (blk_cell BK405.out 2).trans rfl, (blk_cell BK405.out 3).trans rfl, (blk_cell BK405.out 4).trans rfl⟩ (fun hHeld => ?_)
                      clear hK K
                      refine norm_ (a' := ?_) ?_ ?_
                      rotate_left
                      · show Act.put _ (some 70) _ = _
                        simp only [Act.put, List.setIfInBounds_toArray, List.set_cons_zero, List.set_cons_succ, i64_w, i32_w]
                        rfl
                      refine one_ (i := 4) (N := some 72) #[true, true, true, true, true, false, false, false, false, false, false] rfl rfl (one_of HT_.out (by kernel_rfl)) (by decide) (fun K hK => ?_)
                      refine Kd.R_append_rows_step (Kd.int .u8) (w0 := w) w.heap.size (by rfl) (.tmp 70) (.tmp 71) 29 5 (.int .u8 0) 1 rfl Tryd.underlying29 info5 rfl (by decide) (by omega) v420 y419 l2 _ _ _ (fun k_ => some k_ ≠ (.slice Ao33 t409.length co33 : Value).ownBlock) (fun _ => False) rfl rfl ?aO ?aR (fun _ _ h => h) (fun _ h => h.elim) ?aF ?aB ?aS ?aL ?_
                      (case aR => repeat (first | exact (Kd.C_below HR2.out HB.out) | (with_reducible refine Kd.C_alloc ?_ _) | (with_reducible refine Kd.C_drewN ?_ _) | (with_reducible refine Kd.C_drew ?_)))
                      (case aB => exact (by repeat (first | (with_reducible first | exact HB.out | apply below_alloc | apply pw_below_drewN | apply below_drew1 | refine below_set ?_ GE405.out) | exact HB.out)))
                      (case aF => exact (fun k_ hk => Kd.fresh' (Kd.R_lt (by (with_reducible repeat (first | apply Kd.R_alloc | apply Kd.R_drewN | apply Kd.R_drew)); exact HO411.out)) k_ hk))
                      (case aO => exact (by (with_reducible repeat (first | apply Kd.R_alloc | apply Kd.R_drewN | apply Kd.R_drew)); exact HO421.out))
                      (case aS => exact (below_size (by repeat (first | (with_reducible first | exact HB.out | apply below_alloc | apply pw_below_drewN | apply below_drew1 | refine below_set ?_ GE405.out) | exact HB.out))))
                      (case aL => have := LMc23.out; omega)
                      intro v423 w38 ho hb hg hat
                      rw [← Ny422.out] at ho
                      have n0_ := Aside0.mk (blk_grown (g := gb405) (o := .cells #[.slice A0_0 l0_0.length c0_0, .int .i64 a0_1, .int .i64 a0_2, .int .i64 a0_3, .int .i64 a0_4] 24 (0, 0)) (by (with_reducible repeat (first | refine blk_drewN ?_ _ | refine blk_drew ?_ | refine blk_alloc ?_ _)); exact BK405.out) hg (Kd.R_ne HO421.out BK405.out (by decide))); have n3_ := Aside0.mk (hb); have n4_ := Aside0.mk (ho); clear BK405; clear HO411; clear HB; clear HO421; have BK405 := n0_; have HB := n3_; have HO424 := n4_; clear n0_ n3_ n4_; clear ho hb hg hat
                      obtain ⟨Ao39, co39, eo39⟩ := Kd.R_slice HO424.out
                      (first | subst eo39 | (injection eo39 with f1_ f2_ f3_; have f4_ := f1_.symm; have f5_ := f3_.symm; clear f1_ f2_ f3_; subst f4_; subst f5_))
                      refine hK.out _ _ ⟨(blk_cell BK405.out 0).trans rfl, (blk_cell BK405.out 1).trans rfl, (blk_cell BK405.out 2).trans rfl, (blk_cell BK405.out 3).trans rfl, (blk_cell BK405.out 4).trans rfl⟩ (fun hHeld => ?_)
                      clear hK K
                      refine norm_ (a' := ?_) ?_ ?_
                      rotate_left
                      · show Act.put _ (some 72) _ = _
                        simp only [Act.put, List.setIfInBounds_toArray, List.set_cons_zero, List.set_cons_succ, i64_w, i32_w]
                        rfl
                      refine one_ (i := 5) (N := some 73) #[true, true, true, true, true, true, false, false, false, false, false] rfl rfl (one_of HT_.out (by kernel_rfl)) (by decide) (fun K hK => ?_)
                      refine goes_ Tryd.func20 (by kernel_rfl) rfl #[.agg #[.slice A0_0 l0_0.length c0_0, .int .i64 a0_1, .int .i64 a0_2, .int .i64 a0_3, .int .i64 a0_4], .slice Ao39 y422.length co39] (by rfl) rfl rfl (by (try simp only [List.map_toArray, List.map_cons, List.map_nil]); first | done | rfl | (simp only [List.length_drop, List.length_take]; rfl)) ?_
                      with_reducible refine (schema_Decode.calls _ _ l0_0 a0_1 a0_2 a0_3 a0_4 _ _ y422 t425 t428 _ ?side1 ?side2 ?side3 ?side4 ?side5 A24.out).mono ?_
                      (case side1 => repeat (first | exact (Kd.C_below HR0_0.out HB.out) | (with_reducible refine Kd.C_alloc ?_ _) | (with_reducible refine Kd.C_drewN ?_ _) | (with_reducible refine Kd.C_drew ?_)))
                      (case side2 => exact HC0_0.out)
                      (case side3 => repeat (first | exact (Kd.R_reads' HO424.out).2.2 | (with_reducible refine Kd.C_alloc ?_ _) | (with_reducible refine Kd.C_drewN ?_ _) | (with_reducible refine Kd.C_drew ?_)))
                      (case side4 => exact (Kd.R_reads' HO424.out).2.1)
                      (case side5 => exact globs_below HGL.out (by repeat (first | (with_reducible first | exact HB.out | apply below_alloc | apply pw_below_drewN | apply below_drew1 | refine below_set ?_ GE405.out) | exact HB.out)))
                      rintro e w40 ⟨v426, rfl, ho0, hb⟩
                      refine ⟨_, rfl, ?_⟩
                      have n4_ := Aside0.mk (blk_below (g := gb405) (o := .cells #[.slice A0_0 l0_0.length c0_0, .int .i64 a0_1, .int .i64 a0_2, .int .i64 a0_3, .int .i64 a0_4] 24 (0, 0)) (by (with_reducible repeat (first | refine blk_drewN ?_ _ | refine blk_drew ?_ | refine blk_alloc ?_ _)); exact BK405.out) hb); have n5_ := Aside0.mk (below_step (by repeat (first | (with_reducible first | exact HB.out | apply below_alloc | apply pw_below_drewN | apply below_drew1 | refine below_set ?_ GE405.out) | exact HB.out)) hb); clear HO424; clear BK405; clear HB; have BK405 := n4_; have HB := n5_; clear n4_ n5_; (try clear hb); (try clear hb2); (try clear hk); (try clear hi); (try clear ho0)
                      refine hK.out _ _ ⟨(blk_cell BK405.out 0).trans rfl, (blk_cell BK405.out 1).trans rfl, (blk_cell BK405.out 2).trans rfl, (blk_cell BK405.out 3).trans rfl, (blk_cell BK405.out 4).trans rfl⟩ (fun hHeld => ?_)
                      clear hK K
                      refine norm_ (a' := ?_) ?_ ?_
                      rotate_left
                      · show Act.put _ (some 73) _ = _
                        simp only [Act.put, List.setIfInBounds_toArray, List.set_cons_zero, List.set_cons_succ, i64_w, i32_w]
                        rfl
                      refine pure_ (i := 6) (N := some 67) (v := ?_) (a' := ?_) #[true, true, true, true, true, true, true, false, false, false, false] rfl rfl (any_of HT_.out (by kernel_rfl)) (fun _ _ _ h => h) (Or.inl ⟨by rfl, ?_⟩) ?_ ?_
                      rotate_left
                      · intro w'
                        go_simp
                        with_reducible rfl
                      rotate_left
                      · simp only [Act.put, List.setIfInBounds_toArray, List.set_cons_zero, List.set_cons_succ, i64_w, i32_w]
                        rfl
                      refine pure_ (i := 7) (N := some 74) (v := ?_) (a' := ?_) #[true, true, true, true, true, true, true, true, false, false, false] rfl rfl (any_of HT_.out (by kernel_rfl)) (fun _ _ _ h => h) (Or.inl ⟨by rfl, ?_⟩) ?_ ?_
                      rotate_left
                      · intro w'
                        go_simp
                        with_reducible rfl
                      rotate_left
                      · simp only [Act.put, List.setIfInBounds_toArray, List.set_cons_zero, List.set_cons_succ, i64_w, i32_w]
                        rfl
                      refine pure_ (i := 8) (N := some 75) (v := ?_) (a' := ?_) #[true, true, true, true, true, true, true, true, true, false, false] rfl rfl (any_of HT_.out (by kernel_rfl)) (fun _ _ _ h => h) (Or.inl ⟨by rfl, ?_⟩) ?_ ?_
                      rotate_left
                      · intro w'
                        go_simp
                        with_reducible rfl
                      rotate_left
                      · simp only [Act.put, List.setIfInBounds_toArray, List.set_cons_zero, List.set_cons_succ, i64_w, i32_w]
                        rfl
                      refine pure_ (i := 9) (N := some 15) (v := ?_) (a' := ?_) #[true, true, true, true, true, true, true, true, true, true, false] rfl rfl (any_of HT_.out (by kernel_rfl)) (fun _ _ _ h => h) (Or.inl ⟨by rfl, ?_⟩) ?_ ?_
                      rotate_left
                      · intro w'
                        go_simp
                        with_reducible rfl
                      rotate_left
                      · simp only [Act.put, List.setIfInBounds_toArray, List.set_cons_zero, List.set_cons_succ, i64_w, i32_w]
                        rfl
                      refine pure_ (i := 10) (N := some 16) (v := ?_) (a' := ?_) #[true, true, true, true, true, true, true, true, true, true, true] rfl rfl (any_of HT_.out (by kernel_rfl)) (fun _ _ _ h => h) (Or.inl ⟨by rfl, ?_⟩) ?_ ?_
                      rotate_left
                      · intro w'
                        go_simp
                        with_reducible rfl
                      rotate_left
                      · simp only [Act.put, List.setIfInBounds_toArray, List.set_cons_zero, List.set_cons_succ, i64_w, i32_w]
                        rfl
                      refine done_ (done_of HT_.out (by kernel_rfl)) ?_
                      try go_wp2
                      go_ret
                      exact ⟨by first | rfl | (simp [errW_none, errW_some] <;> rfl) | (refine congrArg (fun b_ : Bool => Ending.returned (Value.bool b_)) ?_; simp; done) | (simp [*, errW_none, errW_some] <;> rfl), by repeat (first | (with_reducible first | exact HB.out | apply below_alloc | apply pw_below_drewN | apply below_drew1 | refine below_set ?_ GE405.out) | exact HB.out)⟩
                    · rw [if_neg c27] at H
                      have c27b0 : (t417 == 0) = false := beq_eq_false_iff_ne.mpr c27
                      have c27b1 : (t417 != 0) = true := bne_iff_ne.mpr c27
                      exact absurd (HTRUE.out.symm.trans (Option.some.inj H).symm) (by decide)
                  · rw [if_neg c26] at H
                    have c26b0 : (t412 == 0) = false := beq_eq_false_iff_ne.mpr c26
                    have c26b1 : (t412 != 0) = true := bne_iff_ne.mpr c26
                    exact absurd (HTRUE.out.symm.trans (Option.some.inj H).symm) (by decide)
                · rw [if_neg c25] at H
                  have c25b0 : (t428 == 7) = false := beq_eq_false_iff_ne.mpr c25
                  have c25b1 : (t428 != 7) = true := bne_iff_ne.mpr c25
                  exact absurd (HTRUE.out.symm.trans (Option.some.inj H).symm) (by decide)
              · rw [if_neg c23] at H
                exact absurd H (by simp)
            · rw [if_neg c22] at H
              exact absurd H (by simp)
          · rw [if_neg c21] at H
            have c21b0 : decide (0 < (l2.length : Int)) = false := decide_eq_false c21
            have c21b1 : decide (0 < l2.length) = false := decide_eq_false (by omega)
            clear c21
            by_cases c41 : t412 = 0
            · rw [if_pos c41] at H
              have c41b0 : (t412 == 0) = true := beq_iff_eq.mpr c41
              have c41b1 : (t412 != 0) = false := bne_eq_false_iff_eq.mpr c41
              clear c41
              by_cases c42 : t417 = 0
              · rw [if_pos c42] at H
                have c42b0 : (t417 == 0) = true := beq_iff_eq.mpr c42
                have c42b1 : (t417 != 0) = false := bne_eq_false_iff_eq.mpr c42
                clear c42
                obtain rfl := Option.some.inj H
                have hcz43_0 : wc.cell? ⟨gb405, 0, none⟩ = some (.slice A0_0 l0_0.length c0_0) := (blk_cell BK405.out 0).trans rfl
                have hcz43_1 : wc.cell? ⟨gb405, 1, none⟩ = some (.int .i64 a0_1) := (blk_cell BK405.out 1).trans rfl
                have hcz43_2 : wc.cell? ⟨gb405, 2, none⟩ = some (.int .i64 a0_2) := (blk_cell BK405.out 2).trans rfl
                have hcz43_3 : wc.cell? ⟨gb405, 3, none⟩ = some (.int .i64 a0_3) := (blk_cell BK405.out 3).trans rfl
                have hcz43_4 : wc.cell? ⟨gb405, 4, none⟩ = some (.int .i64 a0_4) := (blk_cell BK405.out 4).trans rfl
                have hfz43_0 := blk_frozen BK405.out 0
                have hfz43_1 := blk_frozen BK405.out 1
                have hfz43_2 := blk_frozen BK405.out 2
                have hfz43_3 := blk_frozen BK405.out 3
                have hfz43_4 := blk_frozen BK405.out 4
                go_wp2_with (first | ((with_reducible refine gate_callee (f := 11) rfl ?_); refine goesL_ (some 41) rfl rfl Tryd.func11 (by kernel_rfl) rfl #[.agg #[.slice A0_0 l0_0.length c0_0, .int .i64 a0_1, .int .i64 a0_2, .int .i64 a0_3, .int .i64 a0_4], .slice A1 l1.length c1] rfl (by (try simp only [List.map_toArray, List.map_cons, List.map_nil]); first | done | rfl | (simp only [List.length_drop, List.length_take]; rfl)) ?_; (with_reducible refine (schema_Encode.calls kj6 _ _ l0_0 a0_1 a0_2 a0_3 a0_4 _ _ l1 t409 t412 _ ?side1 ?side2 ?side3 ?side4 A16.out).mono ?_); (case side1 => repeat (first | exact (Kd.C_below HR0_0.out HB.out) | (with_reducible refine Kd.C_alloc ?_ _) | (with_reducible refine Kd.C_drewN ?_ _) | (with_reducible refine Kd.C_drew ?_))); (case side2 => exact HC0_0.out); (case side3 => repeat (first | exact (Kd.C_below HR1.out HB.out) | (with_reducible refine Kd.C_alloc ?_ _) | (with_reducible refine Kd.C_drewN ?_ _) | (with_reducible refine Kd.C_drew ?_))); (case side4 => exact HC1.out); rintro e w44 ⟨v410, rfl, ho0, hb⟩; refine ⟨_, rfl, ?_⟩; have n0_ := Aside0.mk (Kd.R_lower ho0 (below_size (by repeat (first | (with_reducible first | exact HB.out | apply below_alloc | apply pw_below_drewN | apply below_drew1 | refine below_set ?_ GE405.out) | exact HB.out)))); have n1_ := Aside0.mk (blk_below (g := gb405) (o := .cells #[.slice A0_0 l0_0.length c0_0, .int .i64 a0_1, .int .i64 a0_2, .int .i64 a0_3, .int .i64 a0_4] 24 (0, 0)) (by (with_reducible repeat (first | refine blk_drewN ?_ _ | refine blk_drew ?_ | refine blk_alloc ?_ _)); exact BK405.out) hb); have n2_ := Aside0.mk (below_step (by repeat (first | (with_reducible first | exact HB.out | apply below_alloc | apply pw_below_drewN | apply below_drew1 | refine below_set ?_ GE405.out) | exact HB.out)) hb); clear BK405; clear HB; have HO411 := n0_; have BK405 := n1_; have HB := n2_; clear n0_ n1_ n2_; (try clear hb); (try clear hb2); (try clear hk); (try clear hi); (try clear ho0); have hcz45_0 : w44.cell? ⟨gb405, 0, none⟩ = some (.slice A0_0 l0_0.length c0_0) := (blk_cell BK405.out 0).trans rfl; have hcz45_1 : w44.cell? ⟨gb405, 1, none⟩ = some (.int .i64 a0_1) := (blk_cell BK405.out 1).trans rfl; have hcz45_2 : w44.cell? ⟨gb405, 2, none⟩ = some (.int .i64 a0_2) := (blk_cell BK405.out 2).trans rfl; have hcz45_3 : w44.cell? ⟨gb405, 3, none⟩ = some (.int .i64 a0_3) := (blk_cell BK405.out 3).trans rfl; have hcz45_4 : w44.cell? ⟨gb405, 4, none⟩ = some (.int .i64 a0_4) := (blk_cell BK405.out 4).trans rfl; have hfz45_0 := blk_frozen BK405.out 0; have hfz45_1 := blk_frozen BK405.out 1; have hfz45_2 := blk_frozen BK405.out 2; have hfz45_3 := blk_frozen BK405.out 3; have hfz45_4 := blk_frozen BK405.out 4) | ((with_reducible refine gate_callee (f := 18) rfl ?_); refine goesL_ (some 46) rfl rfl Tryd.func18 (by kernel_rfl) rfl #[.agg #[.slice A0_0 l0_0.length c0_0, .int .i64 a0_1, .int .i64 a0_2, .int .i64 a0_3, .int .i64 a0_4], .slice A1 l1.length c1] rfl (by (try simp only [List.map_toArray, List.map_cons, List.map_nil]); first | done | rfl | (simp only [List.length_drop, List.length_take]; rfl)) ?_; (with_reducible refine (schema_Fits.calls kj6 _ _ l0_0 a0_1 a0_2 a0_3 a0_4 _ _ l1 true _ ?side1 ?side2 ?side3 ?side4 A17.out).mono ?_); (case side1 => repeat (first | exact (Kd.C_below HR0_0.out HB.out) | (with_reducible refine Kd.C_alloc ?_ _) | (with_reducible refine Kd.C_drewN ?_ _) | (with_reducible refine Kd.C_drew ?_))); (case side2 => exact HC0_0.out); (case side3 => repeat (first | exact (Kd.C_below HR1.out HB.out) | (with_reducible refine Kd.C_alloc ?_ _) | (with_reducible refine Kd.C_drewN ?_ _) | (with_reducible refine Kd.C_drew ?_))); (case side4 => exact HC1.out); rintro e w46 ⟨rfl, hb⟩; refine ⟨_, rfl, ?_⟩; have n0_ := Aside0.mk (Kd.R_below (by (with_reducible repeat (first | apply Kd.R_alloc | apply Kd.R_drewN | apply Kd.R_drew)); exact HO411.out) hb); have n1_ := Aside0.mk (blk_below (g := gb405) (o := .cells #[.slice A0_0 l0_0.length c0_0, .int .i64 a0_1, .int .i64 a0_2, .int .i64 a0_3, .int .i64 a0_4] 24 (0, 0)) (by (with_reducible repeat (first | refine blk_drewN ?_ _ | refine blk_drew ?_ | refine blk_alloc ?_ _)); exact BK405.out) hb); have n2_ := Aside0.mk (below_step (by repeat (first | (with_reducible first | exact HB.out | apply below_alloc | apply pw_below_drewN | apply below_drew1 | refine below_set ?_ GE405.out) | exact HB.out)) hb); clear HO411; clear BK405; clear HB; have HO411 := n0_; have BK405 := n1_; have HB := n2_; clear n0_ n1_ n2_; (try clear hb); (try clear hb2); (try clear hk); (try clear hi); have hcz47_0 : w46.cell? ⟨gb405, 0, none⟩ = some (.slice A0_0 l0_0.length c0_0) := (blk_cell BK405.out 0).trans rfl; have hcz47_1 : w46.cell? ⟨gb405, 1, none⟩ = some (.int .i64 a0_1) := (blk_cell BK405.out 1).trans rfl; have hcz47_2 : w46.cell? ⟨gb405, 2, none⟩ = some (.int .i64 a0_2) := (blk_cell BK405.out 2).trans rfl; have hcz47_3 : w46.cell? ⟨gb405, 3, none⟩ = some (.int .i64 a0_3) := (blk_cell BK405.out 3).trans rfl; have hcz47_4 : w46.cell? ⟨gb405, 4, none⟩ = some (.int .i64 a0_4) := (blk_cell BK405.out 4).trans rfl; have hfz47_0 := blk_frozen BK405.out 0; have hfz47_1 := blk_frozen BK405.out 1; have hfz47_2 := blk_frozen BK405.out 2; have hfz47_3 := blk_frozen BK405.out 3; have hfz47_4 := blk_frozen BK405.out 4; obtain ⟨Ao48, co48, eo48⟩ := Kd.R_slice HO411.out; subst eo48) | ((with_reducible refine gate_callee (f := 20) rfl ?_); refine goesL_ (some 58) rfl rfl Tryd.func20 (by kernel_rfl) rfl #[.agg #[.slice A0_0 l0_0.length c0_0, .int .i64 a0_1, .int .i64 a0_2, .int .i64 a0_3, .int .i64 a0_4], .slice Ao48 t409.length co48] rfl (by (try simp only [List.map_toArray, List.map_cons, List.map_nil]); first | done | rfl | (simp only [List.length_drop, List.length_take]; rfl)) ?_; (with_reducible refine (schema_Decode.calls _ _ l0_0 a0_1 a0_2 a0_3 a0_4 _ _ t409 t414 t417 _ ?side1 ?side2 ?side3 ?side4 ?side5 A19.out).mono ?_); (case side1 => repeat (first | exact (Kd.C_below HR0_0.out HB.out) | (with_reducible refine Kd.C_alloc ?_ _) | (with_reducible refine Kd.C_drewN ?_ _) | (with_reducible refine Kd.C_drew ?_))); (case side2 => exact HC0_0.out); (case side3 => repeat (first | exact (Kd.R_reads' HO411.out).2.2 | (with_reducible refine Kd.C_alloc ?_ _) | (with_reducible refine Kd.C_drewN ?_ _) | (with_reducible refine Kd.C_drew ?_))); (case side4 => exact (Kd.R_reads' HO411.out).2.1); (case side5 => exact globs_below HGL.out (by repeat (first | (with_reducible first | exact HB.out | apply below_alloc | apply pw_below_drewN | apply below_drew1 | refine below_set ?_ GE405.out) | exact HB.out))); rintro e w49 ⟨v415, rfl, ho0, hb⟩; refine ⟨_, rfl, ?_⟩; have n1_ := Aside0.mk (Kd.R_lower ho0 (below_size (by repeat (first | (with_reducible first | exact HB.out | apply below_alloc | apply pw_below_drewN | apply below_drew1 | refine below_set ?_ GE405.out) | exact HB.out)))); have n3_ := Aside0.mk (below_step (by repeat (first | (with_reducible first | exact HB.out | apply below_alloc | apply pw_below_drewN | apply below_drew1 | refine below_set ?_ GE405.out) | exact HB.out)) hb); clear HO411; clear BK405; clear HB; have HO416 := n1_; have HB := n3_; clear n1_ n3_; (try clear hb); (try clear hb2); (try clear hk); (try clear hi); (try clear ho0); obtain ⟨Ao50, co50, eo50⟩ := Kd.R_slice HO416.out; subst eo50) | ((with_reducible refine gate_callee (f := 22) rfl ?_); refine goesL_ (some 63) rfl rfl Tryd.func22 (by kernel_rfl) rfl #[.slice Ao50 t414.length co50, .slice A1 l1.length c1] rfl (by (try simp only [List.map_toArray, List.map_cons, List.map_nil]); first | done | rfl | (simp only [List.length_drop, List.length_take]; rfl)) ?_; (with_reducible refine (winnowerref06_Same.calls kj6 _ _ t414 _ _ l1 t418 _ ?side1 ?side2 ?side3 ?side4 A20.out).mono ?_); (case side1 => repeat (first | exact (Kd.R_reads' HO416.out).2.2 | (with_reducible refine Kd.C_alloc ?_ _) | (with_reducible refine Kd.C_drewN ?_ _) | (with_reducible refine Kd.C_drew ?_))); (case side2 => exact (Kd.R_reads' HO416.out).2.1); (case side3 => repeat (first | exact (Kd.C_below HR1.out HB.out) | (with_reducible refine Kd.C_alloc ?_ _) | (with_reducible refine Kd.C_drewN ?_ _) | (with_reducible refine Kd.C_drew ?_))); (case side4 => exact HC1.out); rintro e w' ⟨rfl, ⟨nd, rfl⟩⟩; refine ⟨_, rfl, ?_⟩))
                go_ret
                exact ⟨by first | rfl | (simp [errW_none, errW_some] <;> rfl) | (refine congrArg (fun b_ : Bool => Ending.returned (Value.bool b_)) ?_; simp; done) | (simp [*, errW_none, errW_some] <;> rfl), by repeat (first | (with_reducible first | exact HB.out | apply below_alloc | apply pw_below_drewN | apply below_drew1 | refine below_set ?_ GE405.out) | exact HB.out)⟩
              · rw [if_neg c42] at H
                have c42b0 : (t417 == 0) = false := beq_eq_false_iff_ne.mpr c42
                have c42b1 : (t417 != 0) = true := bne_iff_ne.mpr c42
                exact absurd (HTRUE.out.symm.trans (Option.some.inj H).symm) (by decide)
            · rw [if_neg c41] at H
              have c41b0 : (t412 == 0) = false := beq_eq_false_iff_ne.mpr c41
              have c41b1 : (t412 != 0) = true := bne_iff_ne.mpr c41
              exact absurd (HTRUE.out.symm.trans (Option.some.inj H).symm) (by decide)
        · replace c18 := Bool.eq_false_iff.mpr c18
          subst c18
          have H1 : (if t412 = 1 then (some ((t409.length : Int) == 0)) else (some false)) = some r := by rw [if_neg (show ¬ (false = true) by decide)] at H; exact H
          clear H
          have H := H1
          clear H1
          by_cases c51 : t412 = 1
          · rw [if_pos c51] at H
            have c51b0 : (t412 == 1) = true := beq_iff_eq.mpr c51
            have c51b1 : (t412 != 1) = false := bne_eq_false_iff_eq.mpr c51
            clear c51
            obtain rfl := Option.some.inj H
            have hcz52_0 : wc.cell? ⟨gb405, 0, none⟩ = some (.slice A0_0 l0_0.length c0_0) := (blk_cell BK405.out 0).trans rfl
            have hcz52_1 : wc.cell? ⟨gb405, 1, none⟩ = some (.int .i64 a0_1) := (blk_cell BK405.out 1).trans rfl
            have hcz52_2 : wc.cell? ⟨gb405, 2, none⟩ = some (.int .i64 a0_2) := (blk_cell BK405.out 2).trans rfl
            have hcz52_3 : wc.cell? ⟨gb405, 3, none⟩ = some (.int .i64 a0_3) := (blk_cell BK405.out 3).trans rfl
            have hcz52_4 : wc.cell? ⟨gb405, 4, none⟩ = some (.int .i64 a0_4) := (blk_cell BK405.out 4).trans rfl
            have hfz52_0 := blk_frozen BK405.out 0
            have hfz52_1 := blk_frozen BK405.out 1
            have hfz52_2 := blk_frozen BK405.out 2
            have hfz52_3 := blk_frozen BK405.out 3
            have hfz52_4 := blk_frozen BK405.out 4
            go_wp2_with (first | ((with_reducible refine gate_callee (f := 11) rfl ?_); refine goesL_ (some 41) rfl rfl Tryd.func11 (by kernel_rfl) rfl #[.agg #[.slice A0_0 l0_0.length c0_0, .int .i64 a0_1, .int .i64 a0_2, .int .i64 a0_3, .int .i64 a0_4], .slice A1 l1.length c1] rfl (by (try simp only [List.map_toArray, List.map_cons, List.map_nil]); first | done | rfl | (simp only [List.length_drop, List.length_take]; rfl)) ?_; (with_reducible refine (schema_Encode.calls kj6 _ _ l0_0 a0_1 a0_2 a0_3 a0_4 _ _ l1 t409 t412 _ ?side1 ?side2 ?side3 ?side4 A16.out).mono ?_); (case side1 => repeat (first | exact (Kd.C_below HR0_0.out HB.out) | (with_reducible refine Kd.C_alloc ?_ _) | (with_reducible refine Kd.C_drewN ?_ _) | (with_reducible refine Kd.C_drew ?_))); (case side2 => exact HC0_0.out); (case side3 => repeat (first | exact (Kd.C_below HR1.out HB.out) | (with_reducible refine Kd.C_alloc ?_ _) | (with_reducible refine Kd.C_drewN ?_ _) | (with_reducible refine Kd.C_drew ?_))); (case side4 => exact HC1.out); rintro e w53 ⟨v410, rfl, ho0, hb⟩; refine ⟨_, rfl, ?_⟩; have n0_ := Aside0.mk (Kd.R_lower ho0 (below_size (by repeat (first | (with_reducible first | exact HB.out | apply below_alloc | apply pw_below_drewN | apply below_drew1 | refine below_set ?_ GE405.out) | exact HB.out)))); have n1_ := Aside0.mk (blk_below (g := gb405) (o := .cells #[.slice A0_0 l0_0.length c0_0, .int .i64 a0_1, .int .i64 a0_2, .int .i64 a0_3, .int .i64 a0_4] 24 (0, 0)) (by (with_reducible repeat (first | refine blk_drewN ?_ _ | refine blk_drew ?_ | refine blk_alloc ?_ _)); exact BK405.out) hb); have n2_ := Aside0.mk (below_step (by repeat (first | (with_reducible first | exact HB.out | apply below_alloc | apply pw_below_drewN | apply below_drew1 | refine below_set ?_ GE405.out) | exact HB.out)) hb); clear BK405; clear HB; have HO411 := n0_; have BK405 := n1_; have HB := n2_; clear n0_ n1_ n2_; (try clear hb); (try clear hb2); (try clear hk); (try clear hi); (try clear ho0); have hcz54_0 : w53.cell? ⟨gb405, 0, none⟩ = some (.slice A0_0 l0_0.length c0_0) := (blk_cell BK405.out 0).trans rfl; have hcz54_1 : w53.cell? ⟨gb405, 1, none⟩ = some (.int .i64 a0_1) := (blk_cell BK405.out 1).trans rfl; have hcz54_2 : w53.cell? ⟨gb405, 2, none⟩ = some (.int .i64 a0_2) := (blk_cell BK405.out 2).trans rfl; have hcz54_3 : w53.cell? ⟨gb405, 3, none⟩ = some (.int .i64 a0_3) := (blk_cell BK405.out 3).trans rfl; have hcz54_4 : w53.cell? ⟨gb405, 4, none⟩ = some (.int .i64 a0_4) := (blk_cell BK405.out 4).trans rfl; have hfz54_0 := blk_frozen BK405.out 0; have hfz54_1 := blk_frozen BK405.out 1; have hfz54_2 := blk_frozen BK405.out 2; have hfz54_3 := blk_frozen BK405.out 3; have hfz54_4 := blk_frozen BK405.out 4) | ((with_reducible refine gate_callee (f := 18) rfl ?_); refine goesL_ (some 46) rfl rfl Tryd.func18 (by kernel_rfl) rfl #[.agg #[.slice A0_0 l0_0.length c0_0, .int .i64 a0_1, .int .i64 a0_2, .int .i64 a0_3, .int .i64 a0_4], .slice A1 l1.length c1] rfl (by (try simp only [List.map_toArray, List.map_cons, List.map_nil]); first | done | rfl | (simp only [List.length_drop, List.length_take]; rfl)) ?_; (with_reducible refine (schema_Fits.calls kj6 _ _ l0_0 a0_1 a0_2 a0_3 a0_4 _ _ l1 false _ ?side1 ?side2 ?side3 ?side4 A17.out).mono ?_); (case side1 => repeat (first | exact (Kd.C_below HR0_0.out HB.out) | (with_reducible refine Kd.C_alloc ?_ _) | (with_reducible refine Kd.C_drewN ?_ _) | (with_reducible refine Kd.C_drew ?_))); (case side2 => exact HC0_0.out); (case side3 => repeat (first | exact (Kd.C_below HR1.out HB.out) | (with_reducible refine Kd.C_alloc ?_ _) | (with_reducible refine Kd.C_drewN ?_ _) | (with_reducible refine Kd.C_drew ?_))); (case side4 => exact HC1.out); rintro e w55 ⟨rfl, hb⟩; refine ⟨_, rfl, ?_⟩; have n0_ := Aside0.mk (Kd.R_below (by (with_reducible repeat (first | apply Kd.R_alloc | apply Kd.R_drewN | apply Kd.R_drew)); exact HO411.out) hb); have n2_ := Aside0.mk (below_step (by repeat (first | (with_reducible first | exact HB.out | apply below_alloc | apply pw_below_drewN | apply below_drew1 | refine below_set ?_ GE405.out) | exact HB.out)) hb); clear HO411; clear BK405; clear HB; have HO411 := n0_; have HB := n2_; clear n0_ n2_; (try clear hb); (try clear hb2); (try clear hk); (try clear hi); obtain ⟨Ao56, co56, eo56⟩ := Kd.R_slice HO411.out; subst eo56))
            go_ret
            exact ⟨by first | rfl | (simp [errW_none, errW_some] <;> rfl) | (refine congrArg (fun b_ : Bool => Ending.returned (Value.bool b_)) ?_; simp; done) | (simp [*, errW_none, errW_some] <;> rfl), by repeat (first | (with_reducible first | exact HB.out | apply below_alloc | apply pw_below_drewN | apply below_drew1 | refine below_set ?_ GE405.out) | exact HB.out)⟩
          · rw [if_neg c51] at H
            have c51b0 : (t412 == 1) = false := beq_eq_false_iff_ne.mpr c51
            have c51b1 : (t412 != 1) = true := bne_iff_ne.mpr c51
            exact absurd (HTRUE.out.symm.trans (Option.some.inj H).symm) (by decide)

end Go.Proofs.YteefchdfdgfaaaaDoor.Q
