/- The machine side of laws, written by wip/tools/myprint.py (the printer's way, with functions proved by hand put in); Lean checks it. -/
import Derived.Test.YtakiclhafkhjcaaUx0
import Derived.Test.YtakiclhafkhjcaaUx1
import Derived.Test.YtakiclhafkhjcaaUx2
import Derived.Test.YtakiclhafkhjcaaUx6
import Derived.Test.YtakiclhafkhjcaaUx7
import Derived.Test.YtakiclhafkhjcaaUx8
import Derived.Test.YtakiclhafkhjcaaUx11
import Derived.Test.YtakiclhafkhjcaaUx16
namespace Go.Proofs.Ytakiclhafkhjcaa.U
open Go.RowKit Go.Proofs.YtakiclhafkhjcaaW.PrintWords Go.Proofs.YtakiclhafkhjcaaW.PrintLast Go.Proofs.YtakiclhafkhjcaaW.PrintMore
attribute [local go_sem] max2_int min2_int max_two min_two max_three min_three max_four min_four   -- for this text's walks alone
set_option linter.unusedVariables false
set_option linter.unusedSimpArgs false

attribute [local go_sem high] eqA23
/-! ### winnowerlaw06_ValueBack: function 6 -/
mutual
def winnowerlaw06_ValueBack.j0 : Nat → List Int → Int → Bool → Bool → Int → Int → ByteArray → Bool → Option (Bool)
  | 0, _, _, _, _, _, _, _, _ => none
  | k + 1, x1, x2, x7, x36, x261000, x261001, x261002, x261003 => if x36 = true then (some x7) else ((value_Put.f ([] : List Int) x261000 x261001 x261002 x261003).bind fun bt262 => ((value_May.f x261000 x261001 x261002 x261003).bind fun t266 => (if t266 = true then (if ([] : List Int).length + bt262.1.length < 140737488355328 then ((some (([] : List Int) ++ bt262.1 : List Int)).bind fun y267 => (if y267.length + x1.length < 140737488355328 then ((some (y267 ++ x1 : List Int)).bind fun y270 => ((value_Get.f y270 x261000).bind fun bt273 => ((some (([(x261000) % 256] : List Int) : List Int)).bind fun y280 => (if y280.length + y270.length < 140737488355328 then ((value_Any.f (y280 ++ y270)).bind fun bt286 => (if bt262.2 = 0 then (if bt273.2.2.2.2.2 = 0 then (if bt286.2.2.2.2.2 = 0 then (if (!(bt273.1 == x261000) || (!(bt273.2.1 == x261001) || (!(bt273.2.2.1.toList == x261002.toList) || (!(bt273.2.2.2.1 == x261003))))) = true then (winnowerlaw06_ValueBack.j1 k x1 x2 true) else (if (!(bt286.1 == x261000) || (!(bt286.2.1 == x261001) || (!(bt286.2.2.1.toList == x261002.toList) || (!(bt286.2.2.2.1 == x261003))))) = true then (winnowerlaw06_ValueBack.j1 k x1 x2 true) else (if bt273.2.2.2.2.1 = (bt262.1.length : Int) then (winnowerlaw06_ValueBack.j1 k x1 x2 (bt286.2.2.2.2.1 != (wrap64 (bt273.2.2.2.2.1 + 1)))) else (winnowerlaw06_ValueBack.j1 k x1 x2 true)))) else (winnowerlaw06_ValueBack.j1 k x1 x2 true)) else (winnowerlaw06_ValueBack.j1 k x1 x2 true)) else (winnowerlaw06_ValueBack.j1 k x1 x2 true))) else (none))))) else (none))) else (none)) else (if bt262.2 = 1 then (some ((bt262.1.length : Int) == 0)) else (some false)))))
def winnowerlaw06_ValueBack.j1 : Nat → List Int → Int → Bool → Option (Bool)
  | 0, _, _, _ => none
  | k + 1, x1, x2, x107 => if x107 = true then (some false) else ((value_Get.f x1 x2).bind fun bt293 => (if bt293.2.2.2.2.2 = 0 then ((value_Put.f ([] : List Int) bt293.1 bt293.2.1 bt293.2.2.1 bt293.2.2.2.1).bind fun bt300 => (if bt300.2 = 0 then (winnowerlaw06_ValueBack.j2 k x1 x2 bt293.2.2.2.2.1 bt300.1 (decide (bt293.2.2.2.2.1 > (x1.length : Int))) bt293.1 bt293.2.1 bt293.2.2.1 bt293.2.2.2.1) else (winnowerlaw06_ValueBack.j2 k x1 x2 bt293.2.2.2.2.1 bt300.1 true bt293.1 bt293.2.1 bt293.2.2.1 bt293.2.2.2.1))) else (if (bt293.1 == 0 && (bt293.2.1 == 0 && (bt293.2.2.1.toList == ([] : List UInt8) && (!bt293.2.2.2.1)))) = true then (some (bt293.2.2.2.2.1 == 0)) else (some false))))
def winnowerlaw06_ValueBack.j2 : Nat → List Int → Int → Int → List Int → Bool → Int → Int → ByteArray → Bool → Option (Bool)
  | 0, _, _, _, _, _, _, _, _, _ => none
  | k + 1, x1, x2, x18, x20, x136, x300000, x300001, x300002, x300003 => if x136 = true then (some false) else (if 0 ≤ x18 then (if x18 ≤ (x1.length : Int) then ((winnowerref01_Same.f x20 (x1.take (x18 : Int).toNat)).bind fun t305 => (if t305 = true then ((value_May.f x300000 x300001 x300002 x300003).bind fun t306 => (if t306 = true then (some (x300000 == x2)) else (some false))) else (some false))) else (none)) else (none))
end
def winnowerlaw06_ValueBack.f (k : Nat) (a0_0 : Int) (a0_1 : Int) (a0_2 : ByteArray) (a0_3 : Bool) (l1 : List Int) (a2 : Int) : Option (Bool) := (winnowerlaw06_awake.f).bind fun t261 => (if t261 = true then (if (l1.length : Int) > 300 then (winnowerlaw06_ValueBack.j0 k l1 a2 t261 true a0_0 a0_1 a0_2 a0_3) else (winnowerlaw06_ValueBack.j0 k l1 a2 t261 (decide ((a0_2.size : Int) > 300)) a0_0 a0_1 a0_2 a0_3)) else (winnowerlaw06_ValueBack.j0 k l1 a2 t261 true a0_0 a0_1 a0_2 a0_3))
theorem winnowerlaw06_ValueBack.mono_l : ∀ k, (∀ y0 y1 y2 y3 y4 y5 y6 y7, LeO (winnowerlaw06_ValueBack.j0 k y0 y1 y2 y3 y4 y5 y6 y7) (winnowerlaw06_ValueBack.j0 (k + 1) y0 y1 y2 y3 y4 y5 y6 y7)) ∧ (∀ y0 y1 y2, LeO (winnowerlaw06_ValueBack.j1 k y0 y1 y2) (winnowerlaw06_ValueBack.j1 (k + 1) y0 y1 y2)) ∧ (∀ y0 y1 y2 y3 y4 y5 y6 y7 y8, LeO (winnowerlaw06_ValueBack.j2 k y0 y1 y2 y3 y4 y5 y6 y7 y8) (winnowerlaw06_ValueBack.j2 (k + 1) y0 y1 y2 y3 y4 y5 y6 y7 y8))
  | 0 => ⟨fun _ _ _ _ _ _ _ _ r h => by simp [winnowerlaw06_ValueBack.j0] at h, fun _ _ _ r h => by simp [winnowerlaw06_ValueBack.j1] at h, fun _ _ _ _ _ _ _ _ _ r h => by simp [winnowerlaw06_ValueBack.j2] at h⟩
  | k + 1 => by
    obtain ⟨ih0, ih1, ih2⟩ := winnowerlaw06_ValueBack.mono_l k
    refine ⟨?_, ?_, ?_⟩
    · intro y0 y1 y2 y3 y4 y5 y6 y7
      unfold winnowerlaw06_ValueBack.j0
      repeat' first
      | (with_reducible exact ih0 _ _ _ _ _ _ _ _)
      | (with_reducible exact ih1 _ _ _)
      | (with_reducible exact ih2 _ _ _ _ _ _ _ _ _)
      | (with_reducible exact LeO.refl _)
      | (with_reducible exact LeO.none _)
      | (with_reducible refine LeO.ite ?_ ?_)
      | (with_reducible refine LeO.bind ?_ (fun _ => ?_))
      | exact ih0 _ _ _ _ _ _ _ _
      | exact ih1 _ _ _
      | exact ih2 _ _ _ _ _ _ _ _ _
      | exact LeO.none _
      | refine LeO.ite ?_ ?_
      | refine LeO.bind ?_ (fun _ => ?_)
    · intro y0 y1 y2
      unfold winnowerlaw06_ValueBack.j1
      repeat' first
      | (with_reducible exact ih0 _ _ _ _ _ _ _ _)
      | (with_reducible exact ih1 _ _ _)
      | (with_reducible exact ih2 _ _ _ _ _ _ _ _ _)
      | (with_reducible exact LeO.refl _)
      | (with_reducible exact LeO.none _)
      | (with_reducible refine LeO.ite ?_ ?_)
      | (with_reducible refine LeO.bind ?_ (fun _ => ?_))
      | exact ih0 _ _ _ _ _ _ _ _
      | exact ih1 _ _ _
      | exact ih2 _ _ _ _ _ _ _ _ _
      | exact LeO.none _
      | refine LeO.ite ?_ ?_
      | refine LeO.bind ?_ (fun _ => ?_)
    · intro y0 y1 y2 y3 y4 y5 y6 y7 y8
      unfold winnowerlaw06_ValueBack.j2
      repeat' first
      | (with_reducible exact ih0 _ _ _ _ _ _ _ _)
      | (with_reducible exact ih1 _ _ _)
      | (with_reducible exact ih2 _ _ _ _ _ _ _ _ _)
      | (with_reducible exact LeO.refl _)
      | (with_reducible exact LeO.none _)
      | (with_reducible refine LeO.ite ?_ ?_)
      | (with_reducible refine LeO.bind ?_ (fun _ => ?_))
      | exact ih0 _ _ _ _ _ _ _ _
      | exact ih1 _ _ _
      | exact ih2 _ _ _ _ _ _ _ _ _
      | exact LeO.none _
      | refine LeO.ite ?_ ?_
      | refine LeO.bind ?_ (fun _ => ?_)
theorem winnowerlaw06_ValueBack.mono : ∀ a0 a1 a2 a3 a4 a5 k, LeO (winnowerlaw06_ValueBack.f k a0 a1 a2 a3 a4 a5) (winnowerlaw06_ValueBack.f (k + 1) a0 a1 a2 a3 a4 a5) := by
  intro a0 a1 a2 a3 a4 a5 k
  obtain ⟨ih0, ih1, ih2⟩ := winnowerlaw06_ValueBack.mono_l k
  unfold winnowerlaw06_ValueBack.f
  repeat' first
      | (with_reducible exact ih0 _ _ _ _ _ _ _ _)
      | (with_reducible exact ih1 _ _ _)
      | (with_reducible exact ih2 _ _ _ _ _ _ _ _ _)
      | (with_reducible exact LeO.refl _)
      | (with_reducible exact LeO.none _)
      | (with_reducible refine LeO.ite ?_ ?_)
      | (with_reducible refine LeO.bind ?_ (fun _ => ?_))
      | exact ih0 _ _ _ _ _ _ _ _
      | exact ih1 _ _ _
      | exact ih2 _ _ _ _ _ _ _ _ _
      | exact LeO.none _
      | refine LeO.ite ?_ ?_
      | refine LeO.bind ?_ (fun _ => ?_)
set_option maxHeartbeats 8000000 in
set_option maxRecDepth 100000 in
theorem winnowerlaw06_ValueBack.calls (k : Nat) (a0_0 : Int) (a0_1 : Int) (a0_2 : ByteArray) (a0_3 : Bool) (A1 : Option Addr) (c1 : Nat) (l1 : List Int) (a2 : Int) (r : Bool) (w : World) (hr1 : Kd.C (Kd.int .u8) w A1 l1.length l1) (hc1 : l1.length ≤ c1) (h : winnowerlaw06_ValueBack.f k a0_0 a0_1 a0_2 a0_3 l1 a2 = some r) :
    Calls Try.prog 6 #[.agg #[.int .i64 a0_0, .int .i64 a0_1, .string a0_2, .bool a0_3], .slice A1 l1.length c1, .int .i64 a2] w fun e w' => e = .returned (.bool r) ∧ Below w.heap.size w w' := by
  have hu23 := Try.underlying23
  have HR1 := Aside0.mk hr1
  have HC1 := Aside0.mk hc1
  clear hr1 hc1
  have HB := Aside0.mk (Below.refl w.heap.size w)
  have H : ((winnowerlaw06_awake.f).bind fun t261 => (if t261 = true then (if (l1.length : Int) > 300 then (winnowerlaw06_ValueBack.j0 k l1 a2 t261 true a0_0 a0_1 a0_2 a0_3) else (winnowerlaw06_ValueBack.j0 k l1 a2 t261 (decide ((a0_2.size : Int) > 300)) a0_0 a0_1 a0_2 a0_3)) else (winnowerlaw06_ValueBack.j0 k l1 a2 t261 true a0_0 a0_1 a0_2 a0_3))) = some r := h
  clear h
  replace H := Option.bind_eq_some_iff.mp H
  obtain ⟨t261, A40, H⟩ := H
  replace H : (if t261 = true then (if (l1.length : Int) > 300 then (winnowerlaw06_ValueBack.j0 k l1 a2 t261 true a0_0 a0_1 a0_2 a0_3) else (winnowerlaw06_ValueBack.j0 k l1 a2 t261 (decide ((a0_2.size : Int) > 300)) a0_0 a0_1 a0_2 a0_3)) else (winnowerlaw06_ValueBack.j0 k l1 a2 t261 true a0_0 a0_1 a0_2 a0_3)) = some r := H
  have A4 := Aside0.mk A40
  clear A40
  have HC5 := Aside0.mk H
  clear H
  go_enter Try.func6, Try.ntmps6
  go_upto_region 2 with (first | ((with_reducible refine gate_dst (N := 3) rfl ?_); (try (refine gate_guard (by rfl) ?_; dsimp only)); refine box_event ?hg (N := 3) ?hd (cs := #[.int .i64 a0_0, .int .i64 a0_1, .string a0_2, .bool a0_3]) (t := 23) ?hr ?_; (case hd => rfl); (case hg => rfl); (case hr => first | (go_simp; done) | (go_simp; rfl)); intro gb260 hg w6 hbox hb; have n0_ := Aside0.mk (below_step (by repeat (first | (with_reducible first | exact HB.out | apply below_alloc | apply pw_below_drewN | apply below_drew1) | exact HB.out)) hb); have n1_ := Aside0.mk (hbox); have n2_ := Aside0.mk ((by rw [hg]; exact (below_size (by repeat (first | (with_reducible first | exact HB.out | apply below_alloc | apply pw_below_drewN | apply below_drew1) | exact HB.out))) : w.heap.size ≤ gb260)); have n3_ := Aside0.mk ((by rw [hg]; exact (below_size (by repeat (first | (with_reducible first | exact HB.out | apply below_alloc | apply pw_below_drewN | apply below_drew1) | exact HB.out))) : w.heap.size ≤ gb260)); clear HB; have HB := n0_; have BK260 := n1_; have GW260 := n2_; have GE260 := n3_; clear n0_ n1_ n2_ n3_; clear hb hbox hg) | ((with_reducible refine gate_callee (f := 8) rfl ?_); refine goesL_ (some 23) rfl rfl Try.func8 (by kernel_rfl) rfl #[] rfl (by (try simp only [List.map_toArray, List.map_cons, List.map_nil]); first | done | rfl | (simp only [List.length_drop, List.length_take]; rfl)) ?_; (with_reducible refine (winnowerlaw06_awake.calls  t261 _ A4.out).mono ?_); rintro e w7 ⟨rfl, hb⟩; refine ⟨_, rfl, ?_⟩; have n0_ := Aside0.mk (blk_below (g := gb260) (o := .cells #[.int .i64 a0_0, .int .i64 a0_1, .string a0_2, .bool a0_3] 23 (0, 0)) (by (with_reducible repeat (first | refine blk_drewN ?_ _ | refine blk_drew ?_ | refine blk_alloc ?_ _)); exact BK260.out) hb); have n1_ := Aside0.mk (below_step (by repeat (first | (with_reducible first | exact HB.out | apply below_alloc | apply pw_below_drewN | apply below_drew1 | refine below_set ?_ GE260.out) | exact HB.out)) hb); clear BK260; clear HB; have BK260 := n0_; have HB := n1_; clear n0_ n1_; (try clear hb); (try clear hb2); (try clear hk); (try clear hi)))
  (try simp only [Act.put, List.setIfInBounds_toArray, List.set_cons_zero, List.set_cons_succ])
  go_cut [36] (fun v36 wc => ∃ (kq : Nat) (x36_4 : Bool), v36 = .bool x36_4 ∧ Aside0 (winnowerlaw06_ValueBack.j0 kq l1 a2 t261 x36_4 a0_0 a0_1 a0_2 a0_3 = some r) ∧ Aside0 (kq ≤ k) ∧ Aside0 (wc.heap[gb260]? = some (.cells #[.int .i64 a0_0, .int .i64 a0_1, .string a0_2, .bool a0_3] 23 (0, 0))) ∧ Aside0 (Below w.heap.size w wc))
  case first =>
    have H := HC5.out
    clear HC5
    by_cases c8 : t261 = true
    · subst c8
      have H1 : (if (l1.length : Int) > 300 then (winnowerlaw06_ValueBack.j0 k l1 a2 true true a0_0 a0_1 a0_2 a0_3) else (winnowerlaw06_ValueBack.j0 k l1 a2 true (decide ((a0_2.size : Int) > 300)) a0_0 a0_1 a0_2 a0_3)) = some r := by rw [if_pos rfl] at H; exact H
      clear H
      have H := H1
      clear H1
      by_cases c9 : (l1.length : Int) > 300
      · rw [if_pos c9] at H
        have c9b0 : decide (300 < (l1.length : Int)) = true := decide_eq_true c9
        have c9b1 : decide (300 < l1.length) = true := decide_eq_true (by omega)
        clear c9
        (first | rw [c9b0] | (simp only [i64_w, i32_w]; rw [c9b0]) | skip)
        have H' := Aside0.mk H
        clear H
        go_wp2
        go_meet
        case rel => exact ⟨_, (true), (by first | rfl | (simp; done) | (simp [*]; done)), H', ⟨by first | omega | exact Nat.le_refl _⟩, ⟨by (with_reducible repeat (first | refine blk_drewN ?_ _ | refine blk_drew ?_ | refine blk_alloc ?_ _)); exact BK260.out⟩, ⟨by repeat (first | (with_reducible first | exact HB.out | apply below_alloc | apply pw_below_drewN | apply below_drew1 | refine below_set ?_ GE260.out) | exact HB.out)⟩⟩
      · rw [if_neg c9] at H
        have c9b0 : decide (300 < (l1.length : Int)) = false := decide_eq_false c9
        have c9b1 : decide (300 < l1.length) = false := decide_eq_false (by omega)
        clear c9
        (first | rw [c9b0] | (simp only [i64_w, i32_w]; rw [c9b0]) | skip)
        have H' := Aside0.mk H
        clear H
        have hcz10_0 : w7.cell? ⟨gb260, 0, none⟩ = some (.int .i64 a0_0) := (blk_cell BK260.out 0).trans rfl
        have hcz10_1 : w7.cell? ⟨gb260, 1, none⟩ = some (.int .i64 a0_1) := (blk_cell BK260.out 1).trans rfl
        have hcz10_2 : w7.cell? ⟨gb260, 2, none⟩ = some (.string a0_2) := (blk_cell BK260.out 2).trans rfl
        have hcz10_3 : w7.cell? ⟨gb260, 3, none⟩ = some (.bool a0_3) := (blk_cell BK260.out 3).trans rfl
        have hfz10_0 := blk_frozen BK260.out 0
        have hfz10_1 := blk_frozen BK260.out 1
        have hfz10_2 := blk_frozen BK260.out 2
        have hfz10_3 := blk_frozen BK260.out 3
        go_wp2
        go_meet
        case rel => exact ⟨_, (decide ((a0_2.size : Int) > 300)), (by first | rfl | (simp; done) | (simp [*]; done)), H', ⟨by first | omega | exact Nat.le_refl _⟩, ⟨by (with_reducible repeat (first | refine blk_drewN ?_ _ | refine blk_drew ?_ | refine blk_alloc ?_ _)); exact BK260.out⟩, ⟨by repeat (first | (with_reducible first | exact HB.out | apply below_alloc | apply pw_below_drewN | apply below_drew1 | refine below_set ?_ GE260.out) | exact HB.out)⟩⟩
    · replace c8 := Bool.eq_false_iff.mpr c8
      subst c8
      have H1 : (winnowerlaw06_ValueBack.j0 k l1 a2 false true a0_0 a0_1 a0_2 a0_3) = some r := by rw [if_neg (show ¬ (false = true) by decide)] at H; exact H
      clear H
      have H := H1
      clear H1
      have H' := Aside0.mk H
      clear H
      go_wp2
      go_meet
      case rel => exact ⟨_, (true), (by first | rfl | (simp; done) | (simp [*]; done)), H', ⟨by first | omega | exact Nat.le_refl _⟩, ⟨by (with_reducible repeat (first | refine blk_drewN ?_ _ | refine blk_drew ?_ | refine blk_alloc ?_ _)); exact BK260.out⟩, ⟨by repeat (first | (with_reducible first | exact HB.out | apply below_alloc | apply pw_below_drewN | apply below_drew1 | refine below_set ?_ GE260.out) | exact HB.out)⟩⟩
  case rest =>
    clear HC5
    try clear c1
    try clear p2
    try clear c6
    try clear c8
    try clear c9
    try clear c9b0
    try clear c9b1
    try clear hcz10_0
    try clear hcz10_1
    try clear hcz10_2
    try clear hcz10_3
    try clear hfz10_0
    try clear hfz10_1
    try clear hfz10_2
    try clear hfz10_3
    obtain ⟨kq, x36_4, rfl, HA, HJ4, BK260, HB⟩ := hcut
    cases kq with
    | zero => exact absurd HA.out (by simp [winnowerlaw06_ValueBack.j0])
    | succ kj4 =>
      have H := HA.out
      clear HA
      simp only [winnowerlaw06_ValueBack.j0] at H
      by_cases c11 : x36_4 = true
      · subst c11
        have H1 : (some t261) = some r := by rw [if_pos rfl] at H; exact H
        clear H
        have H := H1
        clear H1
        obtain rfl := Option.some.inj H
        go_wp2
        go_ret
        exact ⟨by first | rfl | (simp [errW_none, errW_some] <;> rfl) | (refine congrArg (fun b_ : Bool => Ending.returned (Value.bool b_)) ?_; simp; done) | (simp [*, errW_none, errW_some] <;> rfl), by repeat (first | (with_reducible first | exact HB.out | apply below_alloc | apply pw_below_drewN | apply below_drew1 | refine below_set ?_ GE260.out) | exact HB.out)⟩
      · replace c11 := Bool.eq_false_iff.mpr c11
        subst c11
        have H1 : ((value_Put.f ([] : List Int) a0_0 a0_1 a0_2 a0_3).bind fun bt262 => ((value_May.f a0_0 a0_1 a0_2 a0_3).bind fun t266 => (if t266 = true then (if ([] : List Int).length + bt262.1.length < 140737488355328 then ((some (([] : List Int) ++ bt262.1 : List Int)).bind fun y267 => (if y267.length + l1.length < 140737488355328 then ((some (y267 ++ l1 : List Int)).bind fun y270 => ((value_Get.f y270 a0_0).bind fun bt273 => ((some (([(a0_0) % 256] : List Int) : List Int)).bind fun y280 => (if y280.length + y270.length < 140737488355328 then ((value_Any.f (y280 ++ y270)).bind fun bt286 => (if bt262.2 = 0 then (if bt273.2.2.2.2.2 = 0 then (if bt286.2.2.2.2.2 = 0 then (if (!(bt273.1 == a0_0) || (!(bt273.2.1 == a0_1) || (!(bt273.2.2.1.toList == a0_2.toList) || (!(bt273.2.2.2.1 == a0_3))))) = true then (winnowerlaw06_ValueBack.j1 kj4 l1 a2 true) else (if (!(bt286.1 == a0_0) || (!(bt286.2.1 == a0_1) || (!(bt286.2.2.1.toList == a0_2.toList) || (!(bt286.2.2.2.1 == a0_3))))) = true then (winnowerlaw06_ValueBack.j1 kj4 l1 a2 true) else (if bt273.2.2.2.2.1 = (bt262.1.length : Int) then (winnowerlaw06_ValueBack.j1 kj4 l1 a2 (bt286.2.2.2.2.1 != (wrap64 (bt273.2.2.2.2.1 + 1)))) else (winnowerlaw06_ValueBack.j1 kj4 l1 a2 true)))) else (winnowerlaw06_ValueBack.j1 kj4 l1 a2 true)) else (winnowerlaw06_ValueBack.j1 kj4 l1 a2 true)) else (winnowerlaw06_ValueBack.j1 kj4 l1 a2 true))) else (none))))) else (none))) else (none)) else (if bt262.2 = 1 then (some ((bt262.1.length : Int) == 0)) else (some false))))) = some r := by rw [if_neg (show ¬ (false = true) by decide)] at H; exact H
        clear H
        have H := H1
        clear H1
        replace H := Option.bind_eq_some_iff.mp H
        obtain ⟨⟨t262, t265⟩, A120, H⟩ := H
        replace H : ((value_May.f a0_0 a0_1 a0_2 a0_3).bind fun t266 => (if t266 = true then (if ([] : List Int).length + t262.length < 140737488355328 then ((some (([] : List Int) ++ t262 : List Int)).bind fun y267 => (if y267.length + l1.length < 140737488355328 then ((some (y267 ++ l1 : List Int)).bind fun y270 => ((value_Get.f y270 a0_0).bind fun bt273 => ((some (([(a0_0) % 256] : List Int) : List Int)).bind fun y280 => (if y280.length + y270.length < 140737488355328 then ((value_Any.f (y280 ++ y270)).bind fun bt286 => (if t265 = 0 then (if bt273.2.2.2.2.2 = 0 then (if bt286.2.2.2.2.2 = 0 then (if (!(bt273.1 == a0_0) || (!(bt273.2.1 == a0_1) || (!(bt273.2.2.1.toList == a0_2.toList) || (!(bt273.2.2.2.1 == a0_3))))) = true then (winnowerlaw06_ValueBack.j1 kj4 l1 a2 true) else (if (!(bt286.1 == a0_0) || (!(bt286.2.1 == a0_1) || (!(bt286.2.2.1.toList == a0_2.toList) || (!(bt286.2.2.2.1 == a0_3))))) = true then (winnowerlaw06_ValueBack.j1 kj4 l1 a2 true) else (if bt273.2.2.2.2.1 = (t262.length : Int) then (winnowerlaw06_ValueBack.j1 kj4 l1 a2 (bt286.2.2.2.2.1 != (wrap64 (bt273.2.2.2.2.1 + 1)))) else (winnowerlaw06_ValueBack.j1 kj4 l1 a2 true)))) else (winnowerlaw06_ValueBack.j1 kj4 l1 a2 true)) else (winnowerlaw06_ValueBack.j1 kj4 l1 a2 true)) else (winnowerlaw06_ValueBack.j1 kj4 l1 a2 true))) else (none))))) else (none))) else (none)) else (if t265 = 1 then (some ((t262.length : Int) == 0)) else (some false)))) = some r := H
        have A12 := Aside0.mk A120
        clear A120
        replace H := Option.bind_eq_some_iff.mp H
        obtain ⟨t266, A130, H⟩ := H
        replace H : (if t266 = true then (if ([] : List Int).length + t262.length < 140737488355328 then ((some (([] : List Int) ++ t262 : List Int)).bind fun y267 => (if y267.length + l1.length < 140737488355328 then ((some (y267 ++ l1 : List Int)).bind fun y270 => ((value_Get.f y270 a0_0).bind fun bt273 => ((some (([(a0_0) % 256] : List Int) : List Int)).bind fun y280 => (if y280.length + y270.length < 140737488355328 then ((value_Any.f (y280 ++ y270)).bind fun bt286 => (if t265 = 0 then (if bt273.2.2.2.2.2 = 0 then (if bt286.2.2.2.2.2 = 0 then (if (!(bt273.1 == a0_0) || (!(bt273.2.1 == a0_1) || (!(bt273.2.2.1.toList == a0_2.toList) || (!(bt273.2.2.2.1 == a0_3))))) = true then (winnowerlaw06_ValueBack.j1 kj4 l1 a2 true) else (if (!(bt286.1 == a0_0) || (!(bt286.2.1 == a0_1) || (!(bt286.2.2.1.toList == a0_2.toList) || (!(bt286.2.2.2.1 == a0_3))))) = true then (winnowerlaw06_ValueBack.j1 kj4 l1 a2 true) else (if bt273.2.2.2.2.1 = (t262.length : Int) then (winnowerlaw06_ValueBack.j1 kj4 l1 a2 (bt286.2.2.2.2.1 != (wrap64 (bt273.2.2.2.2.1 + 1)))) else (winnowerlaw06_ValueBack.j1 kj4 l1 a2 true)))) else (winnowerlaw06_ValueBack.j1 kj4 l1 a2 true)) else (winnowerlaw06_ValueBack.j1 kj4 l1 a2 true)) else (winnowerlaw06_ValueBack.j1 kj4 l1 a2 true))) else (none))))) else (none))) else (none)) else (if t265 = 1 then (some ((t262.length : Int) == 0)) else (some false))) = some r := H
        have A13 := Aside0.mk A130
        clear A130
        by_cases c14 : t266 = true
        · subst c14
          have H1 : (if ([] : List Int).length + t262.length < 140737488355328 then ((some (([] : List Int) ++ t262 : List Int)).bind fun y267 => (if y267.length + l1.length < 140737488355328 then ((some (y267 ++ l1 : List Int)).bind fun y270 => ((value_Get.f y270 a0_0).bind fun bt273 => ((some (([(a0_0) % 256] : List Int) : List Int)).bind fun y280 => (if y280.length + y270.length < 140737488355328 then ((value_Any.f (y280 ++ y270)).bind fun bt286 => (if t265 = 0 then (if bt273.2.2.2.2.2 = 0 then (if bt286.2.2.2.2.2 = 0 then (if (!(bt273.1 == a0_0) || (!(bt273.2.1 == a0_1) || (!(bt273.2.2.1.toList == a0_2.toList) || (!(bt273.2.2.2.1 == a0_3))))) = true then (winnowerlaw06_ValueBack.j1 kj4 l1 a2 true) else (if (!(bt286.1 == a0_0) || (!(bt286.2.1 == a0_1) || (!(bt286.2.2.1.toList == a0_2.toList) || (!(bt286.2.2.2.1 == a0_3))))) = true then (winnowerlaw06_ValueBack.j1 kj4 l1 a2 true) else (if bt273.2.2.2.2.1 = (t262.length : Int) then (winnowerlaw06_ValueBack.j1 kj4 l1 a2 (bt286.2.2.2.2.1 != (wrap64 (bt273.2.2.2.2.1 + 1)))) else (winnowerlaw06_ValueBack.j1 kj4 l1 a2 true)))) else (winnowerlaw06_ValueBack.j1 kj4 l1 a2 true)) else (winnowerlaw06_ValueBack.j1 kj4 l1 a2 true)) else (winnowerlaw06_ValueBack.j1 kj4 l1 a2 true))) else (none))))) else (none))) else (none)) = some r := by rw [if_pos rfl] at H; exact H
          clear H
          have H := H1
          clear H1
          by_cases c15 : ([] : List Int).length + t262.length < 140737488355328
          · rw [if_pos c15] at H
            have LMc15 := Aside0.mk c15
            clear c15
            obtain ⟨y267, hy267⟩ : ∃ y_ : List Int, y_ = (([] : List Int) ++ t262) := ⟨_, rfl⟩
            replace H : (if y267.length + l1.length < 140737488355328 then ((some (y267 ++ l1 : List Int)).bind fun y270 => ((value_Get.f y270 a0_0).bind fun bt273 => ((some (([(a0_0) % 256] : List Int) : List Int)).bind fun y280 => (if y280.length + y270.length < 140737488355328 then ((value_Any.f (y280 ++ y270)).bind fun bt286 => (if t265 = 0 then (if bt273.2.2.2.2.2 = 0 then (if bt286.2.2.2.2.2 = 0 then (if (!(bt273.1 == a0_0) || (!(bt273.2.1 == a0_1) || (!(bt273.2.2.1.toList == a0_2.toList) || (!(bt273.2.2.2.1 == a0_3))))) = true then (winnowerlaw06_ValueBack.j1 kj4 l1 a2 true) else (if (!(bt286.1 == a0_0) || (!(bt286.2.1 == a0_1) || (!(bt286.2.2.1.toList == a0_2.toList) || (!(bt286.2.2.2.1 == a0_3))))) = true then (winnowerlaw06_ValueBack.j1 kj4 l1 a2 true) else (if bt273.2.2.2.2.1 = (t262.length : Int) then (winnowerlaw06_ValueBack.j1 kj4 l1 a2 (bt286.2.2.2.2.1 != (wrap64 (bt273.2.2.2.2.1 + 1)))) else (winnowerlaw06_ValueBack.j1 kj4 l1 a2 true)))) else (winnowerlaw06_ValueBack.j1 kj4 l1 a2 true)) else (winnowerlaw06_ValueBack.j1 kj4 l1 a2 true)) else (winnowerlaw06_ValueBack.j1 kj4 l1 a2 true))) else (none))))) else (none)) = some r := by first | (rw [hy267]; with_reducible exact H) | (have H2_ := (Option.bind_some _ _).symm.trans H; rw [hy267]; with_reducible exact H2_) | (have H2_ := (Option.bind_some _ _).symm.trans H; with_reducible exact H2_) | with_reducible exact H | (rw [hy267]; exact H) | exact H
            have Ny267 := Aside0.mk hy267
            clear hy267
            by_cases c16 : y267.length + l1.length < 140737488355328
            · rw [if_pos c16] at H
              have LMc16 := Aside0.mk c16
              clear c16
              obtain ⟨y270, hy270⟩ : ∃ y_ : List Int, y_ = (y267 ++ l1) := ⟨_, rfl⟩
              replace H : ((value_Get.f y270 a0_0).bind fun bt273 => ((some (([(a0_0) % 256] : List Int) : List Int)).bind fun y280 => (if y280.length + y270.length < 140737488355328 then ((value_Any.f (y280 ++ y270)).bind fun bt286 => (if t265 = 0 then (if bt273.2.2.2.2.2 = 0 then (if bt286.2.2.2.2.2 = 0 then (if (!(bt273.1 == a0_0) || (!(bt273.2.1 == a0_1) || (!(bt273.2.2.1.toList == a0_2.toList) || (!(bt273.2.2.2.1 == a0_3))))) = true then (winnowerlaw06_ValueBack.j1 kj4 l1 a2 true) else (if (!(bt286.1 == a0_0) || (!(bt286.2.1 == a0_1) || (!(bt286.2.2.1.toList == a0_2.toList) || (!(bt286.2.2.2.1 == a0_3))))) = true then (winnowerlaw06_ValueBack.j1 kj4 l1 a2 true) else (if bt273.2.2.2.2.1 = (t262.length : Int) then (winnowerlaw06_ValueBack.j1 kj4 l1 a2 (bt286.2.2.2.2.1 != (wrap64 (bt273.2.2.2.2.1 + 1)))) else (winnowerlaw06_ValueBack.j1 kj4 l1 a2 true)))) else (winnowerlaw06_ValueBack.j1 kj4 l1 a2 true)) else (winnowerlaw06_ValueBack.j1 kj4 l1 a2 true)) else (winnowerlaw06_ValueBack.j1 kj4 l1 a2 true))) else (none)))) = some r := by first | (rw [hy270]; with_reducible exact H) | (have H2_ := (Option.bind_some _ _).symm.trans H; rw [hy270]; with_reducible exact H2_) | (have H2_ := (Option.bind_some _ _).symm.trans H; with_reducible exact H2_) | with_reducible exact H | (rw [hy270]; exact H) | exact H
              have Ny270 := Aside0.mk hy270
              clear hy270
              replace H := Option.bind_eq_some_iff.mp H
              obtain ⟨⟨t273, t274, t275, t276, t277, t278⟩, A170, H⟩ := H
              replace H : ((some (([(a0_0) % 256] : List Int) : List Int)).bind fun y280 => (if y280.length + y270.length < 140737488355328 then ((value_Any.f (y280 ++ y270)).bind fun bt286 => (if t265 = 0 then (if t278 = 0 then (if bt286.2.2.2.2.2 = 0 then (if (!(t273 == a0_0) || (!(t274 == a0_1) || (!(t275.toList == a0_2.toList) || (!(t276 == a0_3))))) = true then (winnowerlaw06_ValueBack.j1 kj4 l1 a2 true) else (if (!(bt286.1 == a0_0) || (!(bt286.2.1 == a0_1) || (!(bt286.2.2.1.toList == a0_2.toList) || (!(bt286.2.2.2.1 == a0_3))))) = true then (winnowerlaw06_ValueBack.j1 kj4 l1 a2 true) else (if t277 = (t262.length : Int) then (winnowerlaw06_ValueBack.j1 kj4 l1 a2 (bt286.2.2.2.2.1 != (wrap64 (t277 + 1)))) else (winnowerlaw06_ValueBack.j1 kj4 l1 a2 true)))) else (winnowerlaw06_ValueBack.j1 kj4 l1 a2 true)) else (winnowerlaw06_ValueBack.j1 kj4 l1 a2 true)) else (winnowerlaw06_ValueBack.j1 kj4 l1 a2 true))) else (none))) = some r := H
              have A17 := Aside0.mk A170
              clear A170
              obtain ⟨y280, hy280⟩ : ∃ y_ : List Int, y_ = (([(a0_0) % 256] : List Int)) := ⟨_, rfl⟩
              replace H : (if y280.length + y270.length < 140737488355328 then ((value_Any.f (y280 ++ y270)).bind fun bt286 => (if t265 = 0 then (if t278 = 0 then (if bt286.2.2.2.2.2 = 0 then (if (!(t273 == a0_0) || (!(t274 == a0_1) || (!(t275.toList == a0_2.toList) || (!(t276 == a0_3))))) = true then (winnowerlaw06_ValueBack.j1 kj4 l1 a2 true) else (if (!(bt286.1 == a0_0) || (!(bt286.2.1 == a0_1) || (!(bt286.2.2.1.toList == a0_2.toList) || (!(bt286.2.2.2.1 == a0_3))))) = true then (winnowerlaw06_ValueBack.j1 kj4 l1 a2 true) else (if t277 = (t262.length : Int) then (winnowerlaw06_ValueBack.j1 kj4 l1 a2 (bt286.2.2.2.2.1 != (wrap64 (t277 + 1)))) else (winnowerlaw06_ValueBack.j1 kj4 l1 a2 true)))) else (winnowerlaw06_ValueBack.j1 kj4 l1 a2 true)) else (winnowerlaw06_ValueBack.j1 kj4 l1 a2 true)) else (winnowerlaw06_ValueBack.j1 kj4 l1 a2 true))) else (none)) = some r := by first | (rw [hy280]; with_reducible exact H) | (have H2_ := (Option.bind_some _ _).symm.trans H; rw [hy280]; with_reducible exact H2_) | (have H2_ := (Option.bind_some _ _).symm.trans H; with_reducible exact H2_) | with_reducible exact H | (rw [hy280]; exact H) | exact H
              have Ny280 := Aside0.mk hy280
              clear hy280
              by_cases c18 : y280.length + y270.length < 140737488355328
              · rw [if_pos c18] at H
                have LMc18 := Aside0.mk c18
                clear c18
                obtain ⟨y283, hy283⟩ : ∃ y_ : List Int, y_ = (y280 ++ y270) := ⟨_, rfl⟩
                replace H : ((value_Any.f y283).bind fun bt286 => (if t265 = 0 then (if t278 = 0 then (if bt286.2.2.2.2.2 = 0 then (if (!(t273 == a0_0) || (!(t274 == a0_1) || (!(t275.toList == a0_2.toList) || (!(t276 == a0_3))))) = true then (winnowerlaw06_ValueBack.j1 kj4 l1 a2 true) else (if (!(bt286.1 == a0_0) || (!(bt286.2.1 == a0_1) || (!(bt286.2.2.1.toList == a0_2.toList) || (!(bt286.2.2.2.1 == a0_3))))) = true then (winnowerlaw06_ValueBack.j1 kj4 l1 a2 true) else (if t277 = (t262.length : Int) then (winnowerlaw06_ValueBack.j1 kj4 l1 a2 (bt286.2.2.2.2.1 != (wrap64 (t277 + 1)))) else (winnowerlaw06_ValueBack.j1 kj4 l1 a2 true)))) else (winnowerlaw06_ValueBack.j1 kj4 l1 a2 true)) else (winnowerlaw06_ValueBack.j1 kj4 l1 a2 true)) else (winnowerlaw06_ValueBack.j1 kj4 l1 a2 true))) = some r := by first | (rw [hy283]; with_reducible exact H) | (have H2_ := (Option.bind_some _ _).symm.trans H; rw [hy283]; with_reducible exact H2_) | (have H2_ := (Option.bind_some _ _).symm.trans H; with_reducible exact H2_) | with_reducible exact H | (rw [hy283]; exact H) | exact H
                have Ny283 := Aside0.mk hy283
                clear hy283
                replace H := Option.bind_eq_some_iff.mp H
                obtain ⟨⟨t286, t287, t288, t289, t290, t291⟩, A190, H⟩ := H
                replace H : (if t265 = 0 then (if t278 = 0 then (if t291 = 0 then (if (!(t273 == a0_0) || (!(t274 == a0_1) || (!(t275.toList == a0_2.toList) || (!(t276 == a0_3))))) = true then (winnowerlaw06_ValueBack.j1 kj4 l1 a2 true) else (if (!(t286 == a0_0) || (!(t287 == a0_1) || (!(t288.toList == a0_2.toList) || (!(t289 == a0_3))))) = true then (winnowerlaw06_ValueBack.j1 kj4 l1 a2 true) else (if t277 = (t262.length : Int) then (winnowerlaw06_ValueBack.j1 kj4 l1 a2 (t290 != (wrap64 (t277 + 1)))) else (winnowerlaw06_ValueBack.j1 kj4 l1 a2 true)))) else (winnowerlaw06_ValueBack.j1 kj4 l1 a2 true)) else (winnowerlaw06_ValueBack.j1 kj4 l1 a2 true)) else (winnowerlaw06_ValueBack.j1 kj4 l1 a2 true)) = some r := H
                have A19 := Aside0.mk A190
                clear A190
                have HC20 := Aside0.mk H
                clear H
                have hcz21_0 : wc.cell? ⟨gb260, 0, none⟩ = some (.int .i64 a0_0) := (blk_cell BK260.out 0).trans rfl
                have hcz21_1 : wc.cell? ⟨gb260, 1, none⟩ = some (.int .i64 a0_1) := (blk_cell BK260.out 1).trans rfl
                have hcz21_2 : wc.cell? ⟨gb260, 2, none⟩ = some (.string a0_2) := (blk_cell BK260.out 2).trans rfl
                have hcz21_3 : wc.cell? ⟨gb260, 3, none⟩ = some (.bool a0_3) := (blk_cell BK260.out 3).trans rfl
                have hfz21_0 := blk_frozen BK260.out 0
                have hfz21_1 := blk_frozen BK260.out 1
                have hfz21_2 := blk_frozen BK260.out 2
                have hfz21_3 := blk_frozen BK260.out 3
                go_upto_region 10 with (first | ((with_reducible refine gate_callee (f := 9) rfl ?_); refine goesL_ (some 40) rfl rfl Try.func9 (by kernel_rfl) rfl #[.slice none 0 0, .agg #[.int .i64 a0_0, .int .i64 a0_1, .string a0_2, .bool a0_3]] rfl (by (try simp only [List.map_toArray, List.map_cons, List.map_nil]); first | done | rfl | (simp only [List.length_drop, List.length_take]; rfl)) ?_; (refine (value_Put.calls (fun k_ => some k_ = (.slice none 0 0 : Value).ownBlock) (.slice none 0 0) ([] : List Int) a0_0 a0_1 a0_2 a0_3 t262 t265 w _ ?side1 ?side2 A12.out).mono ?_); (case side1 => repeat (first | (with_reducible first | exact HB.out | apply below_alloc | apply pw_below_drewN | apply below_drew1 | refine below_set ?_ GE260.out) | exact HB.out)); (case side2 => exact Kd.R_nil _ _ _ _ _); rintro e w22 ⟨v263, rfl, ho0, hb, hkp⟩; refine ⟨_, rfl, ?_⟩; have n0_ := Aside0.mk (blk_kept (by (with_reducible repeat (first | refine blk_drewN ?_ _ | refine blk_drew ?_ | refine blk_alloc ?_ _)); exact BK260.out) hkp (fun hs_ => (fun e_ => by simp [Value.ownBlock] at e_) hs_)); have n1_ := Aside0.mk (Kd.R_mono (ok' := fun k_ => True) ho0 (fun k_ hk_ => trivial)); have n2_ := Aside0.mk (hb); clear BK260; clear HB; have BK260 := n0_; have HO264 := n1_; have HB := n2_; clear n0_ n1_ n2_; (try clear hb); (try clear hkp); (try clear ho0); have hcz23_0 : w22.cell? ⟨gb260, 0, none⟩ = some (.int .i64 a0_0) := (blk_cell BK260.out 0).trans rfl; have hcz23_1 : w22.cell? ⟨gb260, 1, none⟩ = some (.int .i64 a0_1) := (blk_cell BK260.out 1).trans rfl; have hcz23_2 : w22.cell? ⟨gb260, 2, none⟩ = some (.string a0_2) := (blk_cell BK260.out 2).trans rfl; have hcz23_3 : w22.cell? ⟨gb260, 3, none⟩ = some (.bool a0_3) := (blk_cell BK260.out 3).trans rfl; have hfz23_0 := blk_frozen BK260.out 0; have hfz23_1 := blk_frozen BK260.out 1; have hfz23_2 := blk_frozen BK260.out 2; have hfz23_3 := blk_frozen BK260.out 3) | ((with_reducible refine gate_callee (f := 12) rfl ?_); refine goesL_ (some 44) rfl rfl Try.func12 (by kernel_rfl) rfl #[.agg #[.int .i64 a0_0, .int .i64 a0_1, .string a0_2, .bool a0_3]] rfl (by (try simp only [List.map_toArray, List.map_cons, List.map_nil]); first | done | rfl | (simp only [List.length_drop, List.length_take]; rfl)) ?_; (with_reducible refine (value_May.calls a0_0 a0_1 a0_2 a0_3 true _ A13.out).mono ?_); rintro e w24 ⟨rfl, hb⟩; refine ⟨_, rfl, ?_⟩; have n0_ := Aside0.mk (Kd.R_below (by (with_reducible repeat (first | apply Kd.R_alloc | apply Kd.R_drewN | apply Kd.R_drew)); exact HO264.out) hb); have n1_ := Aside0.mk (blk_below (g := gb260) (o := .cells #[.int .i64 a0_0, .int .i64 a0_1, .string a0_2, .bool a0_3] 23 (0, 0)) (by (with_reducible repeat (first | refine blk_drewN ?_ _ | refine blk_drew ?_ | refine blk_alloc ?_ _)); exact BK260.out) hb); have n2_ := Aside0.mk (below_step (by repeat (first | (with_reducible first | exact HB.out | apply below_alloc | apply pw_below_drewN | apply below_drew1 | refine below_set ?_ GE260.out) | exact HB.out)) hb); clear HO264; clear BK260; clear HB; have HO264 := n0_; have BK260 := n1_; have HB := n2_; clear n0_ n1_ n2_; (try clear hb); (try clear hb2); (try clear hk); (try clear hi); obtain ⟨Ao26, co26, eo26⟩ := Kd.R_slice HO264.out; subst eo26) | ((with_reducible refine gate_builtin (b := .append) (xs := #[.const (.slice none 0 0), .tmp 53]) rfl ?_); (try (refine gate_guard (by rfl) ?_; dsimp only)); at_builtin; refine Kd.R_append_rows (Kd.int .u8) (w0 := w) w.heap.size rfl (.const (.slice none 0 0)) (.tmp 53) 24 5 (.int .u8 0) 1 rfl Try.underlying24 info5 rfl (by decide) (by omega) (.slice none 0 0) ([] : List Int) t262 _ _ _ (fun k_ => some k_ ≠ (.slice Ao26 t262.length co26 : Value).ownBlock) (fun _ => False) rfl rfl ?aO ?aR (fun _ _ h => h) (fun _ h => h.elim) ?aF ?aB ?aS ?aL ?_; (case aR => repeat (first | exact (Kd.R_reads' HO264.out).2.2 | (with_reducible refine Kd.C_alloc ?_ _) | (with_reducible refine Kd.C_drewN ?_ _) | (with_reducible refine Kd.C_drew ?_))); (case aB => exact (by repeat (first | (with_reducible first | exact HB.out | apply below_alloc | apply pw_below_drewN | apply below_drew1 | refine below_set ?_ GE260.out) | exact HB.out))); (case aF => exact (fun k_ hk => Kd.fresh' (Kd.R_lt (by (with_reducible repeat (first | apply Kd.R_alloc | apply Kd.R_drewN | apply Kd.R_drew)); exact HO264.out)) k_ hk)); (case aO => exact ((Kd.R_nil _ _ _ _ (fun k_ => some k_ ≠ (.slice Ao26 t262.length co26 : Value).ownBlock)))); (case aS => exact (below_size (by repeat (first | (with_reducible first | exact HB.out | apply below_alloc | apply pw_below_drewN | apply below_drew1 | refine below_set ?_ GE260.out) | exact HB.out)))); (case aL => have := LMc15.out; omega); intro v268 w25 ho hb hg hat; rw [← Ny267.out] at ho; have n0_ := Aside0.mk (blk_grown (g := gb260) (o := .cells #[.int .i64 a0_0, .int .i64 a0_1, .string a0_2, .bool a0_3] 23 (0, 0)) (by (with_reducible repeat (first | refine blk_drewN ?_ _ | refine blk_drew ?_ | refine blk_alloc ?_ _)); exact BK260.out) hg (by simp [Value.ownBlock])); have n1_ := Aside0.mk (Kd.R_after (Kd.R_apart_nil (by (with_reducible repeat (first | apply Kd.R_alloc | apply Kd.R_drewN | apply Kd.R_drew)); exact HO264.out)) hg hat); have n2_ := Aside0.mk (hb); have n3_ := Aside0.mk (ho); clear BK260; clear HO264; clear HB; have BK260 := n0_; have HO264 := n1_; have HB := n2_; have HO269 := n3_; clear n0_ n1_ n2_ n3_; clear ho hb hg hat) | ((with_reducible refine gate_builtin (b := .append) (xs := #[.tmp 54, .tmp 55]) rfl ?_); (try (refine gate_guard (by rfl) ?_; dsimp only)); at_builtin; refine Kd.R_append_rows (Kd.int .u8) (w0 := w) w.heap.size rfl (.tmp 54) (.tmp 55) 24 5 (.int .u8 0) 1 rfl Try.underlying24 info5 rfl (by decide) (by omega) v268 y267 l1 _ _ _ (fun k_ => some k_ ≠ (.slice Ao26 t262.length co26 : Value).ownBlock) (fun _ => False) rfl rfl ?aO ?aR (fun _ _ h => h) (fun _ h => h.elim) ?aF ?aB ?aS ?aL ?_; (case aR => repeat (first | exact (Kd.C_below HR1.out HB.out) | (with_reducible refine Kd.C_alloc ?_ _) | (with_reducible refine Kd.C_drewN ?_ _) | (with_reducible refine Kd.C_drew ?_))); (case aB => exact (by repeat (first | (with_reducible first | exact HB.out | apply below_alloc | apply pw_below_drewN | apply below_drew1 | refine below_set ?_ GE260.out) | exact HB.out))); (case aF => exact (fun k_ hk => Kd.fresh' (Kd.R_lt (by (with_reducible repeat (first | apply Kd.R_alloc | apply Kd.R_drewN | apply Kd.R_drew)); exact HO264.out)) k_ hk)); (case aO => exact (by (with_reducible repeat (first | apply Kd.R_alloc | apply Kd.R_drewN | apply Kd.R_drew)); exact HO269.out)); (case aS => exact (below_size (by repeat (first | (with_reducible first | exact HB.out | apply below_alloc | apply pw_below_drewN | apply below_drew1 | refine below_set ?_ GE260.out) | exact HB.out)))); (case aL => have := LMc16.out; omega); intro v271 w27 ho hb hg hat; rw [← Ny270.out] at ho; have n0_ := Aside0.mk (blk_grown (g := gb260) (o := .cells #[.int .i64 a0_0, .int .i64 a0_1, .string a0_2, .bool a0_3] 23 (0, 0)) (by (with_reducible repeat (first | refine blk_drewN ?_ _ | refine blk_drew ?_ | refine blk_alloc ?_ _)); exact BK260.out) hg (Kd.R_ne HO269.out BK260.out (by decide))); have n1_ := Aside0.mk (Kd.R_after (ok := (fun _ => True)) (by (with_reducible repeat (first | apply Kd.R_alloc | apply Kd.R_drewN | apply Kd.R_drew)); exact HO264.out) hg hat); have n2_ := Aside0.mk (hb); have n3_ := Aside0.mk (ho); clear BK260; clear HO264; clear HB; clear HO269; have BK260 := n0_; have HO264 := n1_; have HB := n2_; have HO272 := n3_; clear n0_ n1_ n2_ n3_; clear ho hb hg hat; have hcz28_0 : w27.cell? ⟨gb260, 0, none⟩ = some (.int .i64 a0_0) := (blk_cell BK260.out 0).trans rfl; have hcz28_1 : w27.cell? ⟨gb260, 1, none⟩ = some (.int .i64 a0_1) := (blk_cell BK260.out 1).trans rfl; have hcz28_2 : w27.cell? ⟨gb260, 2, none⟩ = some (.string a0_2) := (blk_cell BK260.out 2).trans rfl; have hcz28_3 : w27.cell? ⟨gb260, 3, none⟩ = some (.bool a0_3) := (blk_cell BK260.out 3).trans rfl; have hfz28_0 := blk_frozen BK260.out 0; have hfz28_1 := blk_frozen BK260.out 1; have hfz28_2 := blk_frozen BK260.out 2; have hfz28_3 := blk_frozen BK260.out 3; obtain ⟨Ao29, co29, eo29⟩ := Kd.R_slice HO272.out; subst eo29) | ((with_reducible refine gate_callee (f := 16) rfl ?_); refine goesL_ (some 61) rfl rfl Try.func16 (by kernel_rfl) rfl #[.slice Ao29 y270.length co29, .int .i64 a0_0] rfl (by (try simp only [List.map_toArray, List.map_cons, List.map_nil]); first | done | rfl | (simp only [List.length_drop, List.length_take]; rfl)) ?_; (with_reducible refine (value_Get.calls _ _ y270 a0_0 t273 t274 t275 t276 t277 t278 _ ?side1 ?side2 A17.out).mono ?_); (case side1 => repeat (first | exact (Kd.R_reads' HO272.out).2.2 | (with_reducible refine Kd.C_alloc ?_ _) | (with_reducible refine Kd.C_drewN ?_ _) | (with_reducible refine Kd.C_drew ?_))); (case side2 => exact (Kd.R_reads' HO272.out).2.1); rintro e w30 ⟨rfl, hb⟩; refine ⟨_, rfl, ?_⟩; have n0_ := Aside0.mk (Kd.R_below (by (with_reducible repeat (first | apply Kd.R_alloc | apply Kd.R_drewN | apply Kd.R_drew)); exact HO264.out) hb); have n1_ := Aside0.mk (Kd.R_below (by (with_reducible repeat (first | apply Kd.R_alloc | apply Kd.R_drewN | apply Kd.R_drew)); exact HO272.out) hb); have n2_ := Aside0.mk (blk_below (g := gb260) (o := .cells #[.int .i64 a0_0, .int .i64 a0_1, .string a0_2, .bool a0_3] 23 (0, 0)) (by (with_reducible repeat (first | refine blk_drewN ?_ _ | refine blk_drew ?_ | refine blk_alloc ?_ _)); exact BK260.out) hb); have n3_ := Aside0.mk (below_step (by repeat (first | (with_reducible first | exact HB.out | apply below_alloc | apply pw_below_drewN | apply below_drew1 | refine below_set ?_ GE260.out) | exact HB.out)) hb); clear HO264; clear HO272; clear BK260; clear HB; have HO264 := n0_; have HO272 := n1_; have BK260 := n2_; have HB := n3_; clear n0_ n1_ n2_ n3_; (try clear hb); (try clear hb2); (try clear hk); (try clear hi)) | ((with_reducible refine gate_dst (N := 11) rfl ?_); (try (refine gate_guard (by rfl) ?_; dsimp only)); refine box_event ?hg (N := 11) ?hd (cs := #[.int .i64 0, .int .i64 0, .string (⟨#[]⟩ : ByteArray), .bool false]) (t := 23) ?hr ?_; (case hd => rfl); (case hg => rfl); (case hr => first | (go_simp; done) | (go_simp; rfl)); intro gb279 hg w31 hbox hb; have n0_ := Aside0.mk (Kd.R_below (by (with_reducible repeat (first | apply Kd.R_alloc | apply Kd.R_drewN | apply Kd.R_drew)); exact HO264.out) hb); have n1_ := Aside0.mk (Kd.R_below (by (with_reducible repeat (first | apply Kd.R_alloc | apply Kd.R_drewN | apply Kd.R_drew)); exact HO272.out) hb); have n2_ := Aside0.mk (blk_below (g := gb260) (o := .cells #[.int .i64 a0_0, .int .i64 a0_1, .string a0_2, .bool a0_3] 23 (0, 0)) (by (with_reducible repeat (first | refine blk_drewN ?_ _ | refine blk_drew ?_ | refine blk_alloc ?_ _)); exact BK260.out) hb); have n3_ := Aside0.mk (below_step (by repeat (first | (with_reducible first | exact HB.out | apply below_alloc | apply pw_below_drewN | apply below_drew1 | refine below_set ?_ GE260.out) | exact HB.out)) hb); have n4_ := Aside0.mk (hbox); have n5_ := Aside0.mk ((by rw [hg]; exact (below_size (by repeat (first | (with_reducible first | exact HB.out | apply below_alloc | apply pw_below_drewN | apply below_drew1 | refine below_set ?_ GE260.out) | exact HB.out))) : w.heap.size ≤ gb279)); have n6_ := Aside0.mk ((by rw [hg]; exact (below_size (by repeat (first | (with_reducible first | exact HB.out | apply below_alloc | apply pw_below_drewN | apply below_drew1 | refine below_set ?_ GE260.out) | exact HB.out))) : w.heap.size ≤ gb279)); have n7_ := Aside0.mk ((by rw [hg]; exact Nat.ne_of_lt (blk_lt (g := gb260) (o := .cells #[.int .i64 a0_0, .int .i64 a0_1, .string a0_2, .bool a0_3] 23 (0, 0)) (by (with_reducible repeat (first | refine blk_drewN ?_ _ | refine blk_drew ?_ | refine blk_alloc ?_ _)); exact BK260.out)) : gb260 ≠ gb279)); have n8_ := Aside0.mk ((by rw [hg]; exact Nat.ne_of_gt (blk_lt (g := gb260) (o := .cells #[.int .i64 a0_0, .int .i64 a0_1, .string a0_2, .bool a0_3] 23 (0, 0)) (by (with_reducible repeat (first | refine blk_drewN ?_ _ | refine blk_drew ?_ | refine blk_alloc ?_ _)); exact BK260.out)) : gb279 ≠ gb260)); clear HO264; clear HO272; clear BK260; clear HB; have HO264 := n0_; have HO272 := n1_; have BK260 := n2_; have HB := n3_; have BK279 := n4_; have GW279 := n5_; have GE279 := n6_; have NB260_279 := n7_; have NB279_260 := n8_; clear n0_ n1_ n2_ n3_ n4_ n5_ n6_ n7_ n8_; clear hb hbox hg; have hnb32 := NB279_260.out; have hnc32 := NB260_279.out; have hcz33_0 : w31.cell? ⟨gb279, 0, none⟩ = some (.int .i64 0) := (blk_cell BK279.out 0).trans rfl; have hcz33_1 : w31.cell? ⟨gb279, 1, none⟩ = some (.int .i64 0) := (blk_cell BK279.out 1).trans rfl; have hcz33_2 : w31.cell? ⟨gb279, 2, none⟩ = some (.string (⟨#[]⟩ : ByteArray)) := (blk_cell BK279.out 2).trans rfl; have hcz33_3 : w31.cell? ⟨gb279, 3, none⟩ = some (.bool false) := (blk_cell BK279.out 3).trans rfl; have hfz33_0 := blk_frozen BK279.out 0; have hfz33_1 := blk_frozen BK279.out 1; have hfz33_2 := blk_frozen BK279.out 2; have hfz33_3 := blk_frozen BK279.out 3; have hcz34_0 : w31.cell? ⟨gb260, 0, none⟩ = some (.int .i64 a0_0) := (blk_cell BK260.out 0).trans rfl; have hcz34_1 : w31.cell? ⟨gb260, 1, none⟩ = some (.int .i64 a0_1) := (blk_cell BK260.out 1).trans rfl; have hcz34_2 : w31.cell? ⟨gb260, 2, none⟩ = some (.string a0_2) := (blk_cell BK260.out 2).trans rfl; have hcz34_3 : w31.cell? ⟨gb260, 3, none⟩ = some (.bool a0_3) := (blk_cell BK260.out 3).trans rfl; have hfz34_0 := blk_frozen BK260.out 0; have hfz34_1 := blk_frozen BK260.out 1; have hfz34_2 := blk_frozen BK260.out 2; have hfz34_3 := blk_frozen BK260.out 3) | ((with_reducible refine gate_dst (N := 69) rfl ?_); (try (refine gate_guard (by rfl) ?_; dsimp only)); refine Kd.R_lit (Kd.int .u8) _ 5 ?hg (N := 69) ?hd (xs := ([(a0_0) % 256] : List Int)) (inner := [.int .u8 ((a0_0) % 256)]) (ok := fun _ => True) (okp := fun _ => True) ?hr ?hp (fun _ hk => hk) trivial (Below.refl _ _) (Nat.le_refl _) (by simp) ?_; (case hd => rfl); (case hg => rfl); (case hr => first | (go_simp; done) | (go_simp; rfl)); (case hp => exact (Reps.one (show Kd.M (Kd.int .u8) _ _ _ ((a0_0) % 256) [.int .u8 ((a0_0) % 256)] from rfl) (Reps.none _ _))); intro v281 w35 ho36 hb hg_ hnew_; clear hg_ hnew_; (first | rw [← Ny280.out] at ho36 | (simp only [Int.reduceToNat] at ho36; rw [← Ny280.out] at ho36)); have n0_ := Aside0.mk (Kd.R_elder' (by (with_reducible repeat (first | apply Kd.R_alloc | apply Kd.R_drewN | apply Kd.R_drew)); exact (Kd.R_mono (Kd.R_far (p := ⟨gb279, 3, none⟩) (Kd.R_far (p := ⟨gb279, 2, none⟩) (Kd.R_far (p := ⟨gb279, 1, none⟩) (Kd.R_far (p := ⟨gb279, 0, none⟩) (Kd.R_types HO264.out BK279.out (by decide)) (fun _ hk => hk.2) (.int .i64 t273)) (fun _ hk => hk.2) (.int .i64 t274)) (fun _ hk => hk.2) (.string t275)) (fun _ hk => hk.2) (.bool t276)) (fun _ h_ => h_.1))) (Kd.R_base ho36) hb); have n1_ := Aside0.mk (Kd.R_elder' (by (with_reducible repeat (first | apply Kd.R_alloc | apply Kd.R_drewN | apply Kd.R_drew)); exact (Kd.R_mono (Kd.R_far (p := ⟨gb279, 3, none⟩) (Kd.R_far (p := ⟨gb279, 2, none⟩) (Kd.R_far (p := ⟨gb279, 1, none⟩) (Kd.R_far (p := ⟨gb279, 0, none⟩) (Kd.R_types HO272.out BK279.out (by decide)) (fun _ hk => hk.2) (.int .i64 t273)) (fun _ hk => hk.2) (.int .i64 t274)) (fun _ hk => hk.2) (.string t275)) (fun _ hk => hk.2) (.bool t276)) (fun _ h_ => h_.1))) (Kd.R_base ho36) hb); have n2_ := Aside0.mk (Kd.R_lower (Kd.R_new' (Kd.R_new' ho36 (Kd.R_lt (by (with_reducible repeat (first | apply Kd.R_alloc | apply Kd.R_drewN | apply Kd.R_drew)); exact (Kd.R_mono (Kd.R_far (p := ⟨gb279, 3, none⟩) (Kd.R_far (p := ⟨gb279, 2, none⟩) (Kd.R_far (p := ⟨gb279, 1, none⟩) (Kd.R_far (p := ⟨gb279, 0, none⟩) (Kd.R_types HO264.out BK279.out (by decide)) (fun _ hk => hk.2) (.int .i64 t273)) (fun _ hk => hk.2) (.int .i64 t274)) (fun _ hk => hk.2) (.string t275)) (fun _ hk => hk.2) (.bool t276)) (fun _ h_ => h_.1))))) (Kd.R_lt (by (with_reducible repeat (first | apply Kd.R_alloc | apply Kd.R_drewN | apply Kd.R_drew)); exact (Kd.R_mono (Kd.R_far (p := ⟨gb279, 3, none⟩) (Kd.R_far (p := ⟨gb279, 2, none⟩) (Kd.R_far (p := ⟨gb279, 1, none⟩) (Kd.R_far (p := ⟨gb279, 0, none⟩) (Kd.R_types HO272.out BK279.out (by decide)) (fun _ hk => hk.2) (.int .i64 t273)) (fun _ hk => hk.2) (.int .i64 t274)) (fun _ hk => hk.2) (.string t275)) (fun _ hk => hk.2) (.bool t276)) (fun _ h_ => h_.1))))) (below_size (by repeat (first | (with_reducible first | exact HB.out | apply below_alloc | apply pw_below_drewN | apply below_drew1 | refine below_set ?_ GE260.out | refine below_set ?_ GE279.out) | exact HB.out)))); have n3_ := Aside0.mk (blk_below (g := gb260) (o := .cells #[.int .i64 a0_0, .int .i64 a0_1, .string a0_2, .bool a0_3] 23 (0, 0)) (by (with_reducible repeat (first | refine blk_drewN ?_ _ | refine blk_drew ?_ | refine blk_alloc ?_ _)); refine blk_far ?_ NB260_279.out _; (with_reducible repeat (first | refine blk_drewN ?_ _ | refine blk_drew ?_ | refine blk_alloc ?_ _)); refine blk_far ?_ NB260_279.out _; (with_reducible repeat (first | refine blk_drewN ?_ _ | refine blk_drew ?_ | refine blk_alloc ?_ _)); refine blk_far ?_ NB260_279.out _; (with_reducible repeat (first | refine blk_drewN ?_ _ | refine blk_drew ?_ | refine blk_alloc ?_ _)); refine blk_far ?_ NB260_279.out _; (with_reducible repeat (first | refine blk_drewN ?_ _ | refine blk_drew ?_ | refine blk_alloc ?_ _)); exact BK260.out) hb); have n4_ := Aside0.mk (blk_below (g := gb279) (o := .cells #[.int .i64 t273, .int .i64 t274, .string t275, .bool t276] 23 (0, 0)) (by (with_reducible repeat (first | refine blk_drewN ?_ _ | refine blk_drew ?_ | refine blk_alloc ?_ _)); refine blk_put (cs := #[.int .i64 t273, .int .i64 t274, .string t275, .bool false]) ?_ 3 _ rfl; (with_reducible repeat (first | refine blk_drewN ?_ _ | refine blk_drew ?_ | refine blk_alloc ?_ _)); refine blk_put (cs := #[.int .i64 t273, .int .i64 t274, .string (⟨#[]⟩ : ByteArray), .bool false]) ?_ 2 _ rfl; (with_reducible repeat (first | refine blk_drewN ?_ _ | refine blk_drew ?_ | refine blk_alloc ?_ _)); refine blk_put (cs := #[.int .i64 t273, .int .i64 0, .string (⟨#[]⟩ : ByteArray), .bool false]) ?_ 1 _ rfl; (with_reducible repeat (first | refine blk_drewN ?_ _ | refine blk_drew ?_ | refine blk_alloc ?_ _)); refine blk_put (cs := #[.int .i64 0, .int .i64 0, .string (⟨#[]⟩ : ByteArray), .bool false]) ?_ 0 _ rfl; (with_reducible repeat (first | refine blk_drewN ?_ _ | refine blk_drew ?_ | refine blk_alloc ?_ _)); exact BK279.out) hb); have n5_ := Aside0.mk (below_step (by repeat (first | (with_reducible first | exact HB.out | apply below_alloc | apply pw_below_drewN | apply below_drew1 | refine below_set ?_ GE260.out | refine below_set ?_ GE279.out) | exact HB.out)) hb); clear HO264; clear HO272; clear BK260; clear BK279; clear HB; have HO264 := n0_; have HO272 := n1_; have HO282 := n2_; have BK260 := n3_; have BK279 := n4_; have HB := n5_; clear n0_ n1_ n2_ n3_ n4_ n5_; clear hb ho36) | ((with_reducible refine gate_builtin (b := .append) (xs := #[.tmp 69, .tmp 70]) rfl ?_); (try (refine gate_guard (by rfl) ?_; dsimp only)); at_builtin; refine Kd.R_append_rows (Kd.int .u8) (w0 := w) w.heap.size rfl (.tmp 69) (.tmp 70) 24 5 (.int .u8 0) 1 rfl Try.underlying24 info5 rfl (by decide) (by omega) v281 y280 y270 _ _ _ (fun k_ => some k_ ≠ (.slice Ao26 t262.length co26 : Value).ownBlock ∧ some k_ ≠ (.slice Ao29 y270.length co29 : Value).ownBlock) (fun _ => False) rfl rfl ?aO ?aR (fun _ _ h => h) (fun _ h => h.elim) ?aF ?aB ?aS ?aL ?_; (case aR => repeat (first | exact (Kd.R_reads' HO272.out).2.2 | (with_reducible refine Kd.C_alloc ?_ _) | (with_reducible refine Kd.C_drewN ?_ _) | (with_reducible refine Kd.C_drew ?_))); (case aB => exact (by repeat (first | (with_reducible first | exact HB.out | apply below_alloc | apply pw_below_drewN | apply below_drew1 | refine below_set ?_ GE260.out | refine below_set ?_ GE279.out) | exact HB.out))); (case aF => exact (fun k_ hk => ⟨Kd.fresh' (Kd.R_lt (by (with_reducible repeat (first | apply Kd.R_alloc | apply Kd.R_drewN | apply Kd.R_drew)); exact HO264.out)) k_ hk, Kd.fresh' (Kd.R_lt (by (with_reducible repeat (first | apply Kd.R_alloc | apply Kd.R_drewN | apply Kd.R_drew)); exact HO272.out)) k_ hk⟩)); (case aO => exact (by (with_reducible repeat (first | apply Kd.R_alloc | apply Kd.R_drewN | apply Kd.R_drew)); exact Kd.R_mono HO282.out (fun _ hk => ⟨hk.1.2, hk.2⟩))); (case aS => exact (below_size (by repeat (first | (with_reducible first | exact HB.out | apply below_alloc | apply pw_below_drewN | apply below_drew1 | refine below_set ?_ GE260.out | refine below_set ?_ GE279.out) | exact HB.out)))); (case aL => have := LMc18.out; omega); intro v284 w37 ho hb hg hat; rw [← Ny283.out] at ho; have n0_ := Aside0.mk (blk_grown (g := gb260) (o := .cells #[.int .i64 a0_0, .int .i64 a0_1, .string a0_2, .bool a0_3] 23 (0, 0)) (by (with_reducible repeat (first | refine blk_drewN ?_ _ | refine blk_drew ?_ | refine blk_alloc ?_ _)); exact BK260.out) hg (Kd.R_ne HO282.out BK260.out (by decide))); have n1_ := Aside0.mk (Kd.R_after (ok := (fun k_ => some k_ ≠ (.slice Ao29 y270.length co29 : Value).ownBlock)) (by (with_reducible repeat (first | apply Kd.R_alloc | apply Kd.R_drewN | apply Kd.R_drew)); exact Kd.R_mono HO264.out (fun _ hk => ⟨hk.1.2, hk.2⟩)) hg hat); have n2_ := Aside0.mk (Kd.R_after (ok := (fun k_ => some k_ ≠ (.slice Ao26 t262.length co26 : Value).ownBlock)) (by (with_reducible repeat (first | apply Kd.R_alloc | apply Kd.R_drewN | apply Kd.R_drew)); exact HO272.out) hg hat); have n3_ := Aside0.mk (blk_grown (g := gb279) (o := .cells #[.int .i64 t273, .int .i64 t274, .string t275, .bool t276] 23 (0, 0)) (by (with_reducible repeat (first | refine blk_drewN ?_ _ | refine blk_drew ?_ | refine blk_alloc ?_ _)); exact BK279.out) hg (Kd.R_ne HO282.out BK279.out (by decide))); have n4_ := Aside0.mk (hb); have n5_ := Aside0.mk (ho); clear BK260; clear HO264; clear HO272; clear BK279; clear HB; clear HO282; have BK260 := n0_; have HO264 := n1_; have HO272 := n2_; have BK279 := n3_; have HB := n4_; have HO285 := n5_; clear n0_ n1_ n2_ n3_ n4_ n5_; clear ho hb hg hat; obtain ⟨Ao38, co38, eo38⟩ := Kd.R_slice HO285.out; subst eo38) | ((with_reducible refine gate_callee (f := 18) rfl ?_); refine goesL_ (some 72) rfl rfl Try.func18 (by kernel_rfl) rfl #[.slice Ao38 y283.length co38] rfl (by (try simp only [List.map_toArray, List.map_cons, List.map_nil]); first | done | rfl | (simp only [List.length_drop, List.length_take]; rfl)) ?_; (with_reducible refine (value_Any.calls _ _ y283 t286 t287 t288 t289 t290 t291 _ ?side1 ?side2 A19.out).mono ?_); (case side1 => repeat (first | exact (Kd.R_reads' HO285.out).2.2 | (with_reducible refine Kd.C_alloc ?_ _) | (with_reducible refine Kd.C_drewN ?_ _) | (with_reducible refine Kd.C_drew ?_))); (case side2 => exact (Kd.R_reads' HO285.out).2.1); rintro e w39 ⟨rfl, hb⟩; refine ⟨_, rfl, ?_⟩; have n0_ := Aside0.mk (Kd.R_below (by (with_reducible repeat (first | apply Kd.R_alloc | apply Kd.R_drewN | apply Kd.R_drew)); exact HO264.out) hb); have n1_ := Aside0.mk (Kd.R_below (by (with_reducible repeat (first | apply Kd.R_alloc | apply Kd.R_drewN | apply Kd.R_drew)); exact HO272.out) hb); have n2_ := Aside0.mk (Kd.R_below (by (with_reducible repeat (first | apply Kd.R_alloc | apply Kd.R_drewN | apply Kd.R_drew)); exact HO285.out) hb); have n3_ := Aside0.mk (blk_below (g := gb260) (o := .cells #[.int .i64 a0_0, .int .i64 a0_1, .string a0_2, .bool a0_3] 23 (0, 0)) (by (with_reducible repeat (first | refine blk_drewN ?_ _ | refine blk_drew ?_ | refine blk_alloc ?_ _)); exact BK260.out) hb); have n4_ := Aside0.mk (blk_below (g := gb279) (o := .cells #[.int .i64 t273, .int .i64 t274, .string t275, .bool t276] 23 (0, 0)) (by (with_reducible repeat (first | refine blk_drewN ?_ _ | refine blk_drew ?_ | refine blk_alloc ?_ _)); exact BK279.out) hb); have n5_ := Aside0.mk (below_step (by repeat (first | (with_reducible first | exact HB.out | apply below_alloc | apply pw_below_drewN | apply below_drew1 | refine below_set ?_ GE260.out | refine below_set ?_ GE279.out) | exact HB.out)) hb); clear HO264; clear HO272; clear HO285; clear BK260; clear BK279; clear HB; have HO264 := n0_; have HO272 := n1_; have HO285 := n2_; have BK260 := n3_; have BK279 := n4_; have HB := n5_; clear n0_ n1_ n2_ n3_ n4_ n5_; (try clear hb); (try clear hb2); (try clear hk); (try clear hi)) | ((with_reducible refine gate_dst (N := 14) rfl ?_); (try (refine gate_guard (by rfl) ?_; dsimp only)); refine box_event ?hg (N := 14) ?hd (cs := #[.int .i64 0, .int .i64 0, .string (⟨#[]⟩ : ByteArray), .bool false]) (t := 23) ?hr ?_; (case hd => rfl); (case hg => rfl); (case hr => first | (go_simp; done) | (go_simp; rfl)); intro gb292 hg w40 hbox hb; have n0_ := Aside0.mk (Kd.R_below (by (with_reducible repeat (first | apply Kd.R_alloc | apply Kd.R_drewN | apply Kd.R_drew)); exact HO264.out) hb); have n1_ := Aside0.mk (Kd.R_below (by (with_reducible repeat (first | apply Kd.R_alloc | apply Kd.R_drewN | apply Kd.R_drew)); exact HO272.out) hb); have n2_ := Aside0.mk (Kd.R_below (by (with_reducible repeat (first | apply Kd.R_alloc | apply Kd.R_drewN | apply Kd.R_drew)); exact HO285.out) hb); have n3_ := Aside0.mk (blk_below (g := gb260) (o := .cells #[.int .i64 a0_0, .int .i64 a0_1, .string a0_2, .bool a0_3] 23 (0, 0)) (by (with_reducible repeat (first | refine blk_drewN ?_ _ | refine blk_drew ?_ | refine blk_alloc ?_ _)); exact BK260.out) hb); have n4_ := Aside0.mk (blk_below (g := gb279) (o := .cells #[.int .i64 t273, .int .i64 t274, .string t275, .bool t276] 23 (0, 0)) (by (with_reducible repeat (first | refine blk_drewN ?_ _ | refine blk_drew ?_ | refine blk_alloc ?_ _)); exact BK279.out) hb); have n5_ := Aside0.mk (below_step (by repeat (first | (with_reducible first | exact HB.out | apply below_alloc | apply pw_below_drewN | apply below_drew1 | refine below_set ?_ GE260.out | refine below_set ?_ GE279.out) | exact HB.out)) hb); have n6_ := Aside0.mk (hbox); have n7_ := Aside0.mk ((by rw [hg]; exact (below_size (by repeat (first | (with_reducible first | exact HB.out | apply below_alloc | apply pw_below_drewN | apply below_drew1 | refine below_set ?_ GE260.out | refine below_set ?_ GE279.out) | exact HB.out))) : w.heap.size ≤ gb292)); have n8_ := Aside0.mk ((by rw [hg]; exact (below_size (by repeat (first | (with_reducible first | exact HB.out | apply below_alloc | apply pw_below_drewN | apply below_drew1 | refine below_set ?_ GE260.out | refine below_set ?_ GE279.out) | exact HB.out))) : w.heap.size ≤ gb292)); have n9_ := Aside0.mk ((by rw [hg]; exact Nat.ne_of_lt (blk_lt (g := gb260) (o := .cells #[.int .i64 a0_0, .int .i64 a0_1, .string a0_2, .bool a0_3] 23 (0, 0)) (by (with_reducible repeat (first | refine blk_drewN ?_ _ | refine blk_drew ?_ | refine blk_alloc ?_ _)); exact BK260.out)) : gb260 ≠ gb292)); have n10_ := Aside0.mk ((by rw [hg]; exact Nat.ne_of_gt (blk_lt (g := gb260) (o := .cells #[.int .i64 a0_0, .int .i64 a0_1, .string a0_2, .bool a0_3] 23 (0, 0)) (by (with_reducible repeat (first | refine blk_drewN ?_ _ | refine blk_drew ?_ | refine blk_alloc ?_ _)); exact BK260.out)) : gb292 ≠ gb260)); have n11_ := Aside0.mk ((by rw [hg]; exact Nat.ne_of_lt (blk_lt (g := gb279) (o := .cells #[.int .i64 t273, .int .i64 t274, .string t275, .bool t276] 23 (0, 0)) (by (with_reducible repeat (first | refine blk_drewN ?_ _ | refine blk_drew ?_ | refine blk_alloc ?_ _)); exact BK279.out)) : gb279 ≠ gb292)); have n12_ := Aside0.mk ((by rw [hg]; exact Nat.ne_of_gt (blk_lt (g := gb279) (o := .cells #[.int .i64 t273, .int .i64 t274, .string t275, .bool t276] 23 (0, 0)) (by (with_reducible repeat (first | refine blk_drewN ?_ _ | refine blk_drew ?_ | refine blk_alloc ?_ _)); exact BK279.out)) : gb292 ≠ gb279)); clear HO264; clear HO272; clear HO285; clear BK260; clear BK279; clear HB; have HO264 := n0_; have HO272 := n1_; have HO285 := n2_; have BK260 := n3_; have BK279 := n4_; have HB := n5_; have BK292 := n6_; have GW292 := n7_; have GE292 := n8_; have NB260_292 := n9_; have NB292_260 := n10_; have NB279_292 := n11_; have NB292_279 := n12_; clear n0_ n1_ n2_ n3_ n4_ n5_ n6_ n7_ n8_ n9_ n10_ n11_ n12_; clear hb hbox hg; have hnb41 := NB292_260.out; have hnc41 := NB260_292.out; have hnb42 := NB292_279.out; have hnc42 := NB279_292.out; have hcz43_0 : w40.cell? ⟨gb292, 0, none⟩ = some (.int .i64 0) := (blk_cell BK292.out 0).trans rfl; have hcz43_1 : w40.cell? ⟨gb292, 1, none⟩ = some (.int .i64 0) := (blk_cell BK292.out 1).trans rfl; have hcz43_2 : w40.cell? ⟨gb292, 2, none⟩ = some (.string (⟨#[]⟩ : ByteArray)) := (blk_cell BK292.out 2).trans rfl; have hcz43_3 : w40.cell? ⟨gb292, 3, none⟩ = some (.bool false) := (blk_cell BK292.out 3).trans rfl; have hfz43_0 := blk_frozen BK292.out 0; have hfz43_1 := blk_frozen BK292.out 1; have hfz43_2 := blk_frozen BK292.out 2; have hfz43_3 := blk_frozen BK292.out 3))
                (try simp only [Act.put, List.setIfInBounds_toArray, List.set_cons_zero, List.set_cons_succ])
                go_cut [107] (fun v107 wc => ∃ (kq : Nat) (x107_19 : Bool), v107 = .bool x107_19 ∧ Aside0 (winnowerlaw06_ValueBack.j1 kq l1 a2 x107_19 = some r) ∧ Aside0 (kq ≤ kj4) ∧ Aside0 (wc.heap[gb260]? = some (.cells #[.int .i64 a0_0, .int .i64 a0_1, .string a0_2, .bool a0_3] 23 (0, 0))) ∧ Aside0 (wc.heap[gb279]? = some (.cells #[.int .i64 t273, .int .i64 t274, .string t275, .bool t276] 23 (0, 0))) ∧ Aside0 (wc.heap[gb292]? = some (.cells #[.int .i64 t286, .int .i64 t287, .string t288, .bool t289] 23 (0, 0))) ∧ Aside0 (Below w.heap.size w wc))
                case first =>
                  have H := HC20.out
                  clear HC20
                  by_cases c44 : t265 = 0
                  · rw [if_pos c44] at H
                    have c44b0 : (t265 == 0) = true := beq_iff_eq.mpr c44
                    have c44b1 : (t265 != 0) = false := bne_eq_false_iff_eq.mpr c44
                    clear c44
                    (first | rw [c44b0] | (simp only [i64_w, i32_w]; rw [c44b0]) | skip)
                    by_cases c45 : t278 = 0
                    · rw [if_pos c45] at H
                      have c45b0 : (t278 == 0) = true := beq_iff_eq.mpr c45
                      have c45b1 : (t278 != 0) = false := bne_eq_false_iff_eq.mpr c45
                      clear c45
                      by_cases c46 : t291 = 0
                      · rw [if_pos c46] at H
                        have c46b0 : (t291 == 0) = true := beq_iff_eq.mpr c46
                        have c46b1 : (t291 != 0) = false := bne_eq_false_iff_eq.mpr c46
                        clear c46
                        by_cases c47 : (!(t273 == a0_0) || (!(t274 == a0_1) || (!(t275.toList == a0_2.toList) || (!(t276 == a0_3))))) = true
                        · rw [if_pos c47] at H
                          have c47b0 : (!(t273 == a0_0) || (!(t274 == a0_1) || (!(t275.toList == a0_2.toList) || (!(t276 == a0_3))))) = true := c47
                          clear c47
                          have H' := Aside0.mk H
                          clear H
                          have hnb48 := NB279_260.out
                          have hnc48 := NB260_279.out
                          have hnb49 := NB279_292.out
                          have hnc49 := NB292_279.out
                          have hcz50_0 : w40.cell? ⟨gb279, 0, none⟩ = some (.int .i64 t273) := (blk_cell BK279.out 0).trans rfl
                          have hcz50_1 : w40.cell? ⟨gb279, 1, none⟩ = some (.int .i64 t274) := (blk_cell BK279.out 1).trans rfl
                          have hcz50_2 : w40.cell? ⟨gb279, 2, none⟩ = some (.string t275) := (blk_cell BK279.out 2).trans rfl
                          have hcz50_3 : w40.cell? ⟨gb279, 3, none⟩ = some (.bool t276) := (blk_cell BK279.out 3).trans rfl
                          have hfz50_0 := blk_frozen BK279.out 0
                          have hfz50_1 := blk_frozen BK279.out 1
                          have hfz50_2 := blk_frozen BK279.out 2
                          have hfz50_3 := blk_frozen BK279.out 3
                          have hnb51 := NB260_292.out
                          have hnc51 := NB292_260.out
                          have hcz52_0 : w40.cell? ⟨gb260, 0, none⟩ = some (.int .i64 a0_0) := (blk_cell BK260.out 0).trans rfl
                          have hcz52_1 : w40.cell? ⟨gb260, 1, none⟩ = some (.int .i64 a0_1) := (blk_cell BK260.out 1).trans rfl
                          have hcz52_2 : w40.cell? ⟨gb260, 2, none⟩ = some (.string a0_2) := (blk_cell BK260.out 2).trans rfl
                          have hcz52_3 : w40.cell? ⟨gb260, 3, none⟩ = some (.bool a0_3) := (blk_cell BK260.out 3).trans rfl
                          have hfz52_0 := blk_frozen BK260.out 0
                          have hfz52_1 := blk_frozen BK260.out 1
                          have hfz52_2 := blk_frozen BK260.out 2
                          have hfz52_3 := blk_frozen BK260.out 3
                          go_wp2
                          go_meet
                          case rel => exact ⟨_, (true), (by first | rfl | (simp; done) | (simp [*]; done)), H', ⟨by have := HJ4.out; first | omega | exact Nat.le_refl _⟩, ⟨by (with_reducible repeat (first | refine blk_drewN ?_ _ | refine blk_drew ?_ | refine blk_alloc ?_ _)); refine blk_far ?_ NB260_292.out _; (with_reducible repeat (first | refine blk_drewN ?_ _ | refine blk_drew ?_ | refine blk_alloc ?_ _)); refine blk_far ?_ NB260_292.out _; (with_reducible repeat (first | refine blk_drewN ?_ _ | refine blk_drew ?_ | refine blk_alloc ?_ _)); refine blk_far ?_ NB260_292.out _; (with_reducible repeat (first | refine blk_drewN ?_ _ | refine blk_drew ?_ | refine blk_alloc ?_ _)); refine blk_far ?_ NB260_292.out _; (with_reducible repeat (first | refine blk_drewN ?_ _ | refine blk_drew ?_ | refine blk_alloc ?_ _)); exact BK260.out⟩, ⟨by (with_reducible repeat (first | refine blk_drewN ?_ _ | refine blk_drew ?_ | refine blk_alloc ?_ _)); refine blk_far ?_ NB279_292.out _; (with_reducible repeat (first | refine blk_drewN ?_ _ | refine blk_drew ?_ | refine blk_alloc ?_ _)); refine blk_far ?_ NB279_292.out _; (with_reducible repeat (first | refine blk_drewN ?_ _ | refine blk_drew ?_ | refine blk_alloc ?_ _)); refine blk_far ?_ NB279_292.out _; (with_reducible repeat (first | refine blk_drewN ?_ _ | refine blk_drew ?_ | refine blk_alloc ?_ _)); refine blk_far ?_ NB279_292.out _; (with_reducible repeat (first | refine blk_drewN ?_ _ | refine blk_drew ?_ | refine blk_alloc ?_ _)); exact BK279.out⟩, ⟨by (with_reducible repeat (first | refine blk_drewN ?_ _ | refine blk_drew ?_ | refine blk_alloc ?_ _)); refine blk_put (cs := #[.int .i64 t286, .int .i64 t287, .string t288, .bool false]) ?_ 3 _ rfl; (with_reducible repeat (first | refine blk_drewN ?_ _ | refine blk_drew ?_ | refine blk_alloc ?_ _)); refine blk_put (cs := #[.int .i64 t286, .int .i64 t287, .string (⟨#[]⟩ : ByteArray), .bool false]) ?_ 2 _ rfl; (with_reducible repeat (first | refine blk_drewN ?_ _ | refine blk_drew ?_ | refine blk_alloc ?_ _)); refine blk_put (cs := #[.int .i64 t286, .int .i64 0, .string (⟨#[]⟩ : ByteArray), .bool false]) ?_ 1 _ rfl; (with_reducible repeat (first | refine blk_drewN ?_ _ | refine blk_drew ?_ | refine blk_alloc ?_ _)); refine blk_put (cs := #[.int .i64 0, .int .i64 0, .string (⟨#[]⟩ : ByteArray), .bool false]) ?_ 0 _ rfl; (with_reducible repeat (first | refine blk_drewN ?_ _ | refine blk_drew ?_ | refine blk_alloc ?_ _)); exact BK292.out⟩, ⟨by repeat (first | (with_reducible first | exact HB.out | apply below_alloc | apply pw_below_drewN | apply below_drew1 | refine below_set ?_ GE260.out | refine below_set ?_ GE279.out | refine below_set ?_ GE292.out) | exact HB.out)⟩⟩
                        · rw [if_neg c47] at H
                          have c47b0 : (!(t273 == a0_0) || (!(t274 == a0_1) || (!(t275.toList == a0_2.toList) || (!(t276 == a0_3))))) = false := by simpa using c47
                          clear c47
                          by_cases c53 : (!(t286 == a0_0) || (!(t287 == a0_1) || (!(t288.toList == a0_2.toList) || (!(t289 == a0_3))))) = true
                          · rw [if_pos c53] at H
                            have c53b0 : (!(t286 == a0_0) || (!(t287 == a0_1) || (!(t288.toList == a0_2.toList) || (!(t289 == a0_3))))) = true := c53
                            clear c53
                            have H' := Aside0.mk H
                            clear H
                            have hnb54 := NB279_260.out
                            have hnc54 := NB260_279.out
                            have hnb55 := NB279_292.out
                            have hnc55 := NB292_279.out
                            have hcz56_0 : w40.cell? ⟨gb279, 0, none⟩ = some (.int .i64 t273) := (blk_cell BK279.out 0).trans rfl
                            have hcz56_1 : w40.cell? ⟨gb279, 1, none⟩ = some (.int .i64 t274) := (blk_cell BK279.out 1).trans rfl
                            have hcz56_2 : w40.cell? ⟨gb279, 2, none⟩ = some (.string t275) := (blk_cell BK279.out 2).trans rfl
                            have hcz56_3 : w40.cell? ⟨gb279, 3, none⟩ = some (.bool t276) := (blk_cell BK279.out 3).trans rfl
                            have hfz56_0 := blk_frozen BK279.out 0
                            have hfz56_1 := blk_frozen BK279.out 1
                            have hfz56_2 := blk_frozen BK279.out 2
                            have hfz56_3 := blk_frozen BK279.out 3
                            have hnb57 := NB260_292.out
                            have hnc57 := NB292_260.out
                            have hcz58_0 : w40.cell? ⟨gb260, 0, none⟩ = some (.int .i64 a0_0) := (blk_cell BK260.out 0).trans rfl
                            have hcz58_1 : w40.cell? ⟨gb260, 1, none⟩ = some (.int .i64 a0_1) := (blk_cell BK260.out 1).trans rfl
                            have hcz58_2 : w40.cell? ⟨gb260, 2, none⟩ = some (.string a0_2) := (blk_cell BK260.out 2).trans rfl
                            have hcz58_3 : w40.cell? ⟨gb260, 3, none⟩ = some (.bool a0_3) := (blk_cell BK260.out 3).trans rfl
                            have hfz58_0 := blk_frozen BK260.out 0
                            have hfz58_1 := blk_frozen BK260.out 1
                            have hfz58_2 := blk_frozen BK260.out 2
                            have hfz58_3 := blk_frozen BK260.out 3
                            have hcz59_0 : w40.cell? ⟨gb292, 0, none⟩ = some (.int .i64 0) := (blk_cell BK292.out 0).trans rfl
                            have hcz59_1 : w40.cell? ⟨gb292, 1, none⟩ = some (.int .i64 0) := (blk_cell BK292.out 1).trans rfl
                            have hcz59_2 : w40.cell? ⟨gb292, 2, none⟩ = some (.string (⟨#[]⟩ : ByteArray)) := (blk_cell BK292.out 2).trans rfl
                            have hcz59_3 : w40.cell? ⟨gb292, 3, none⟩ = some (.bool false) := (blk_cell BK292.out 3).trans rfl
                            have hfz59_0 := blk_frozen BK292.out 0
                            have hfz59_1 := blk_frozen BK292.out 1
                            have hfz59_2 := blk_frozen BK292.out 2
                            have hfz59_3 := blk_frozen BK292.out 3
                            go_wp2
                            go_meet
                            case rel => exact ⟨_, (true), (by first | rfl | (simp; done) | (simp [*]; done)), H', ⟨by have := HJ4.out; first | omega | exact Nat.le_refl _⟩, ⟨by (with_reducible repeat (first | refine blk_drewN ?_ _ | refine blk_drew ?_ | refine blk_alloc ?_ _)); refine blk_far ?_ NB260_292.out _; (with_reducible repeat (first | refine blk_drewN ?_ _ | refine blk_drew ?_ | refine blk_alloc ?_ _)); refine blk_far ?_ NB260_292.out _; (with_reducible repeat (first | refine blk_drewN ?_ _ | refine blk_drew ?_ | refine blk_alloc ?_ _)); refine blk_far ?_ NB260_292.out _; (with_reducible repeat (first | refine blk_drewN ?_ _ | refine blk_drew ?_ | refine blk_alloc ?_ _)); refine blk_far ?_ NB260_292.out _; (with_reducible repeat (first | refine blk_drewN ?_ _ | refine blk_drew ?_ | refine blk_alloc ?_ _)); exact BK260.out⟩, ⟨by (with_reducible repeat (first | refine blk_drewN ?_ _ | refine blk_drew ?_ | refine blk_alloc ?_ _)); refine blk_far ?_ NB279_292.out _; (with_reducible repeat (first | refine blk_drewN ?_ _ | refine blk_drew ?_ | refine blk_alloc ?_ _)); refine blk_far ?_ NB279_292.out _; (with_reducible repeat (first | refine blk_drewN ?_ _ | refine blk_drew ?_ | refine blk_alloc ?_ _)); refine blk_far ?_ NB279_292.out _; (with_reducible repeat (first | refine blk_drewN ?_ _ | refine blk_drew ?_ | refine blk_alloc ?_ _)); refine blk_far ?_ NB279_292.out _; (with_reducible repeat (first | refine blk_drewN ?_ _ | refine blk_drew ?_ | refine blk_alloc ?_ _)); exact BK279.out⟩, ⟨by (with_reducible repeat (first | refine blk_drewN ?_ _ | refine blk_drew ?_ | refine blk_alloc ?_ _)); refine blk_put (cs := #[.int .i64 t286, .int .i64 t287, .string t288, .bool false]) ?_ 3 _ rfl; (with_reducible repeat (first | refine blk_drewN ?_ _ | refine blk_drew ?_ | refine blk_alloc ?_ _)); refine blk_put (cs := #[.int .i64 t286, .int .i64 t287, .string (⟨#[]⟩ : ByteArray), .bool false]) ?_ 2 _ rfl; (with_reducible repeat (first | refine blk_drewN ?_ _ | refine blk_drew ?_ | refine blk_alloc ?_ _)); refine blk_put (cs := #[.int .i64 t286, .int .i64 0, .string (⟨#[]⟩ : ByteArray), .bool false]) ?_ 1 _ rfl; (with_reducible repeat (first | refine blk_drewN ?_ _ | refine blk_drew ?_ | refine blk_alloc ?_ _)); refine blk_put (cs := #[.int .i64 0, .int .i64 0, .string (⟨#[]⟩ : ByteArray), .bool false]) ?_ 0 _ rfl; (with_reducible repeat (first | refine blk_drewN ?_ _ | refine blk_drew ?_ | refine blk_alloc ?_ _)); exact BK292.out⟩, ⟨by repeat (first | (with_reducible first | exact HB.out | apply below_alloc | apply pw_below_drewN | apply below_drew1 | refine below_set ?_ GE260.out | refine below_set ?_ GE279.out | refine below_set ?_ GE292.out) | exact HB.out)⟩⟩
                          · rw [if_neg c53] at H
                            have c53b0 : (!(t286 == a0_0) || (!(t287 == a0_1) || (!(t288.toList == a0_2.toList) || (!(t289 == a0_3))))) = false := by simpa using c53
                            clear c53
                            by_cases c60 : t277 = (t262.length : Int)
                            · rw [if_pos c60] at H
                              have c60b0 : (t277 == (t262.length : Int)) = true := beq_iff_eq.mpr c60
                              have c60b1 : (t277 != (t262.length : Int)) = false := bne_eq_false_iff_eq.mpr c60
                              clear c60
                              have H' := Aside0.mk H
                              clear H
                              have hnb61 := NB279_260.out
                              have hnc61 := NB260_279.out
                              have hnb62 := NB279_292.out
                              have hnc62 := NB292_279.out
                              have hcz63_0 : w40.cell? ⟨gb279, 0, none⟩ = some (.int .i64 t273) := (blk_cell BK279.out 0).trans rfl
                              have hcz63_1 : w40.cell? ⟨gb279, 1, none⟩ = some (.int .i64 t274) := (blk_cell BK279.out 1).trans rfl
                              have hcz63_2 : w40.cell? ⟨gb279, 2, none⟩ = some (.string t275) := (blk_cell BK279.out 2).trans rfl
                              have hcz63_3 : w40.cell? ⟨gb279, 3, none⟩ = some (.bool t276) := (blk_cell BK279.out 3).trans rfl
                              have hfz63_0 := blk_frozen BK279.out 0
                              have hfz63_1 := blk_frozen BK279.out 1
                              have hfz63_2 := blk_frozen BK279.out 2
                              have hfz63_3 := blk_frozen BK279.out 3
                              have hnb64 := NB260_292.out
                              have hnc64 := NB292_260.out
                              have hcz65_0 : w40.cell? ⟨gb260, 0, none⟩ = some (.int .i64 a0_0) := (blk_cell BK260.out 0).trans rfl
                              have hcz65_1 : w40.cell? ⟨gb260, 1, none⟩ = some (.int .i64 a0_1) := (blk_cell BK260.out 1).trans rfl
                              have hcz65_2 : w40.cell? ⟨gb260, 2, none⟩ = some (.string a0_2) := (blk_cell BK260.out 2).trans rfl
                              have hcz65_3 : w40.cell? ⟨gb260, 3, none⟩ = some (.bool a0_3) := (blk_cell BK260.out 3).trans rfl
                              have hfz65_0 := blk_frozen BK260.out 0
                              have hfz65_1 := blk_frozen BK260.out 1
                              have hfz65_2 := blk_frozen BK260.out 2
                              have hfz65_3 := blk_frozen BK260.out 3
                              have hcz66_0 : w40.cell? ⟨gb292, 0, none⟩ = some (.int .i64 0) := (blk_cell BK292.out 0).trans rfl
                              have hcz66_1 : w40.cell? ⟨gb292, 1, none⟩ = some (.int .i64 0) := (blk_cell BK292.out 1).trans rfl
                              have hcz66_2 : w40.cell? ⟨gb292, 2, none⟩ = some (.string (⟨#[]⟩ : ByteArray)) := (blk_cell BK292.out 2).trans rfl
                              have hcz66_3 : w40.cell? ⟨gb292, 3, none⟩ = some (.bool false) := (blk_cell BK292.out 3).trans rfl
                              have hfz66_0 := blk_frozen BK292.out 0
                              have hfz66_1 := blk_frozen BK292.out 1
                              have hfz66_2 := blk_frozen BK292.out 2
                              have hfz66_3 := blk_frozen BK292.out 3
                              go_wp2
                              go_meet
                              case rel => exact ⟨_, ((t290 != (wrap64 (t277 + 1)))), (by first | rfl | (simp; done) | (simp [*]; done)), H', ⟨by have := HJ4.out; first | omega | exact Nat.le_refl _⟩, ⟨by (with_reducible repeat (first | refine blk_drewN ?_ _ | refine blk_drew ?_ | refine blk_alloc ?_ _)); refine blk_far ?_ NB260_292.out _; (with_reducible repeat (first | refine blk_drewN ?_ _ | refine blk_drew ?_ | refine blk_alloc ?_ _)); refine blk_far ?_ NB260_292.out _; (with_reducible repeat (first | refine blk_drewN ?_ _ | refine blk_drew ?_ | refine blk_alloc ?_ _)); refine blk_far ?_ NB260_292.out _; (with_reducible repeat (first | refine blk_drewN ?_ _ | refine blk_drew ?_ | refine blk_alloc ?_ _)); refine blk_far ?_ NB260_292.out _; (with_reducible repeat (first | refine blk_drewN ?_ _ | refine blk_drew ?_ | refine blk_alloc ?_ _)); exact BK260.out⟩, ⟨by (with_reducible repeat (first | refine blk_drewN ?_ _ | refine blk_drew ?_ | refine blk_alloc ?_ _)); refine blk_far ?_ NB279_292.out _; (with_reducible repeat (first | refine blk_drewN ?_ _ | refine blk_drew ?_ | refine blk_alloc ?_ _)); refine blk_far ?_ NB279_292.out _; (with_reducible repeat (first | refine blk_drewN ?_ _ | refine blk_drew ?_ | refine blk_alloc ?_ _)); refine blk_far ?_ NB279_292.out _; (with_reducible repeat (first | refine blk_drewN ?_ _ | refine blk_drew ?_ | refine blk_alloc ?_ _)); refine blk_far ?_ NB279_292.out _; (with_reducible repeat (first | refine blk_drewN ?_ _ | refine blk_drew ?_ | refine blk_alloc ?_ _)); exact BK279.out⟩, ⟨by (with_reducible repeat (first | refine blk_drewN ?_ _ | refine blk_drew ?_ | refine blk_alloc ?_ _)); refine blk_put (cs := #[.int .i64 t286, .int .i64 t287, .string t288, .bool false]) ?_ 3 _ rfl; (with_reducible repeat (first | refine blk_drewN ?_ _ | refine blk_drew ?_ | refine blk_alloc ?_ _)); refine blk_put (cs := #[.int .i64 t286, .int .i64 t287, .string (⟨#[]⟩ : ByteArray), .bool false]) ?_ 2 _ rfl; (with_reducible repeat (first | refine blk_drewN ?_ _ | refine blk_drew ?_ | refine blk_alloc ?_ _)); refine blk_put (cs := #[.int .i64 t286, .int .i64 0, .string (⟨#[]⟩ : ByteArray), .bool false]) ?_ 1 _ rfl; (with_reducible repeat (first | refine blk_drewN ?_ _ | refine blk_drew ?_ | refine blk_alloc ?_ _)); refine blk_put (cs := #[.int .i64 0, .int .i64 0, .string (⟨#[]⟩ : ByteArray), .bool false]) ?_ 0 _ rfl; (with_reducible repeat (first | refine blk_drewN ?_ _ | refine blk_drew ?_ | refine blk_alloc ?_ _)); exact BK292.out⟩, ⟨by repeat (first | (with_reducible first | exact HB.out | apply below_alloc | apply pw_below_drewN | apply below_drew1 | refine below_set ?_ GE260.out | refine below_set ?_ GE279.out | refine below_set ?_ GE292.out) | exact HB.out)⟩⟩
                            · rw [if_neg c60] at H
                              have c60b0 : (t277 == (t262.length : Int)) = false := beq_eq_false_iff_ne.mpr c60
                              have c60b1 : (t277 != (t262.length : Int)) = true := bne_iff_ne.mpr c60
                              have H' := Aside0.mk H
                              clear H
                              have hnb67 := NB279_260.out
                              have hnc67 := NB260_279.out
                              have hnb68 := NB279_292.out
                              have hnc68 := NB292_279.out
                              have hcz69_0 : w40.cell? ⟨gb279, 0, none⟩ = some (.int .i64 t273) := (blk_cell BK279.out 0).trans rfl
                              have hcz69_1 : w40.cell? ⟨gb279, 1, none⟩ = some (.int .i64 t274) := (blk_cell BK279.out 1).trans rfl
                              have hcz69_2 : w40.cell? ⟨gb279, 2, none⟩ = some (.string t275) := (blk_cell BK279.out 2).trans rfl
                              have hcz69_3 : w40.cell? ⟨gb279, 3, none⟩ = some (.bool t276) := (blk_cell BK279.out 3).trans rfl
                              have hfz69_0 := blk_frozen BK279.out 0
                              have hfz69_1 := blk_frozen BK279.out 1
                              have hfz69_2 := blk_frozen BK279.out 2
                              have hfz69_3 := blk_frozen BK279.out 3
                              have hnb70 := NB260_292.out
                              have hnc70 := NB292_260.out
                              have hcz71_0 : w40.cell? ⟨gb260, 0, none⟩ = some (.int .i64 a0_0) := (blk_cell BK260.out 0).trans rfl
                              have hcz71_1 : w40.cell? ⟨gb260, 1, none⟩ = some (.int .i64 a0_1) := (blk_cell BK260.out 1).trans rfl
                              have hcz71_2 : w40.cell? ⟨gb260, 2, none⟩ = some (.string a0_2) := (blk_cell BK260.out 2).trans rfl
                              have hcz71_3 : w40.cell? ⟨gb260, 3, none⟩ = some (.bool a0_3) := (blk_cell BK260.out 3).trans rfl
                              have hfz71_0 := blk_frozen BK260.out 0
                              have hfz71_1 := blk_frozen BK260.out 1
                              have hfz71_2 := blk_frozen BK260.out 2
                              have hfz71_3 := blk_frozen BK260.out 3
                              have hcz72_0 : w40.cell? ⟨gb292, 0, none⟩ = some (.int .i64 0) := (blk_cell BK292.out 0).trans rfl
                              have hcz72_1 : w40.cell? ⟨gb292, 1, none⟩ = some (.int .i64 0) := (blk_cell BK292.out 1).trans rfl
                              have hcz72_2 : w40.cell? ⟨gb292, 2, none⟩ = some (.string (⟨#[]⟩ : ByteArray)) := (blk_cell BK292.out 2).trans rfl
                              have hcz72_3 : w40.cell? ⟨gb292, 3, none⟩ = some (.bool false) := (blk_cell BK292.out 3).trans rfl
                              have hfz72_0 := blk_frozen BK292.out 0
                              have hfz72_1 := blk_frozen BK292.out 1
                              have hfz72_2 := blk_frozen BK292.out 2
                              have hfz72_3 := blk_frozen BK292.out 3
                              go_wp2
                              go_meet
                              case rel => exact ⟨_, (true), (by first | rfl | (simp; done) | (simp [*]; done)), H', ⟨by have := HJ4.out; first | omega | exact Nat.le_refl _⟩, ⟨by (with_reducible repeat (first | refine blk_drewN ?_ _ | refine blk_drew ?_ | refine blk_alloc ?_ _)); refine blk_far ?_ NB260_292.out _; (with_reducible repeat (first | refine blk_drewN ?_ _ | refine blk_drew ?_ | refine blk_alloc ?_ _)); refine blk_far ?_ NB260_292.out _; (with_reducible repeat (first | refine blk_drewN ?_ _ | refine blk_drew ?_ | refine blk_alloc ?_ _)); refine blk_far ?_ NB260_292.out _; (with_reducible repeat (first | refine blk_drewN ?_ _ | refine blk_drew ?_ | refine blk_alloc ?_ _)); refine blk_far ?_ NB260_292.out _; (with_reducible repeat (first | refine blk_drewN ?_ _ | refine blk_drew ?_ | refine blk_alloc ?_ _)); exact BK260.out⟩, ⟨by (with_reducible repeat (first | refine blk_drewN ?_ _ | refine blk_drew ?_ | refine blk_alloc ?_ _)); refine blk_far ?_ NB279_292.out _; (with_reducible repeat (first | refine blk_drewN ?_ _ | refine blk_drew ?_ | refine blk_alloc ?_ _)); refine blk_far ?_ NB279_292.out _; (with_reducible repeat (first | refine blk_drewN ?_ _ | refine blk_drew ?_ | refine blk_alloc ?_ _)); refine blk_far ?_ NB279_292.out _; (with_reducible repeat (first | refine blk_drewN ?_ _ | refine blk_drew ?_ | refine blk_alloc ?_ _)); refine blk_far ?_ NB279_292.out _; (with_reducible repeat (first | refine blk_drewN ?_ _ | refine blk_drew ?_ | refine blk_alloc ?_ _)); exact BK279.out⟩, ⟨by (with_reducible repeat (first | refine blk_drewN ?_ _ | refine blk_drew ?_ | refine blk_alloc ?_ _)); refine blk_put (cs := #[.int .i64 t286, .int .i64 t287, .string t288, .bool false]) ?_ 3 _ rfl; (with_reducible repeat (first | refine blk_drewN ?_ _ | refine blk_drew ?_ | refine blk_alloc ?_ _)); refine blk_put (cs := #[.int .i64 t286, .int .i64 t287, .string (⟨#[]⟩ : ByteArray), .bool false]) ?_ 2 _ rfl; (with_reducible repeat (first | refine blk_drewN ?_ _ | refine blk_drew ?_ | refine blk_alloc ?_ _)); refine blk_put (cs := #[.int .i64 t286, .int .i64 0, .string (⟨#[]⟩ : ByteArray), .bool false]) ?_ 1 _ rfl; (with_reducible repeat (first | refine blk_drewN ?_ _ | refine blk_drew ?_ | refine blk_alloc ?_ _)); refine blk_put (cs := #[.int .i64 0, .int .i64 0, .string (⟨#[]⟩ : ByteArray), .bool false]) ?_ 0 _ rfl; (with_reducible repeat (first | refine blk_drewN ?_ _ | refine blk_drew ?_ | refine blk_alloc ?_ _)); exact BK292.out⟩, ⟨by repeat (first | (with_reducible first | exact HB.out | apply below_alloc | apply pw_below_drewN | apply below_drew1 | refine below_set ?_ GE260.out | refine below_set ?_ GE279.out | refine below_set ?_ GE292.out) | exact HB.out)⟩⟩
                      · rw [if_neg c46] at H
                        have c46b0 : (t291 == 0) = false := beq_eq_false_iff_ne.mpr c46
                        have c46b1 : (t291 != 0) = true := bne_iff_ne.mpr c46
                        have H' := Aside0.mk H
                        clear H
                        go_wp2
                        go_meet
                        case rel => exact ⟨_, (true), (by first | rfl | (simp; done) | (simp [*]; done)), H', ⟨by have := HJ4.out; first | omega | exact Nat.le_refl _⟩, ⟨by (with_reducible repeat (first | refine blk_drewN ?_ _ | refine blk_drew ?_ | refine blk_alloc ?_ _)); refine blk_far ?_ NB260_292.out _; (with_reducible repeat (first | refine blk_drewN ?_ _ | refine blk_drew ?_ | refine blk_alloc ?_ _)); refine blk_far ?_ NB260_292.out _; (with_reducible repeat (first | refine blk_drewN ?_ _ | refine blk_drew ?_ | refine blk_alloc ?_ _)); refine blk_far ?_ NB260_292.out _; (with_reducible repeat (first | refine blk_drewN ?_ _ | refine blk_drew ?_ | refine blk_alloc ?_ _)); refine blk_far ?_ NB260_292.out _; (with_reducible repeat (first | refine blk_drewN ?_ _ | refine blk_drew ?_ | refine blk_alloc ?_ _)); exact BK260.out⟩, ⟨by (with_reducible repeat (first | refine blk_drewN ?_ _ | refine blk_drew ?_ | refine blk_alloc ?_ _)); refine blk_far ?_ NB279_292.out _; (with_reducible repeat (first | refine blk_drewN ?_ _ | refine blk_drew ?_ | refine blk_alloc ?_ _)); refine blk_far ?_ NB279_292.out _; (with_reducible repeat (first | refine blk_drewN ?_ _ | refine blk_drew ?_ | refine blk_alloc ?_ _)); refine blk_far ?_ NB279_292.out _; (with_reducible repeat (first | refine blk_drewN ?_ _ | refine blk_drew ?_ | refine blk_alloc ?_ _)); refine blk_far ?_ NB279_292.out _; (with_reducible repeat (first | refine blk_drewN ?_ _ | refine blk_drew ?_ | refine blk_alloc ?_ _)); exact BK279.out⟩, ⟨by (with_reducible repeat (first | refine blk_drewN ?_ _ | refine blk_drew ?_ | refine blk_alloc ?_ _)); refine blk_put (cs := #[.int .i64 t286, .int .i64 t287, .string t288, .bool false]) ?_ 3 _ rfl; (with_reducible repeat (first | refine blk_drewN ?_ _ | refine blk_drew ?_ | refine blk_alloc ?_ _)); refine blk_put (cs := #[.int .i64 t286, .int .i64 t287, .string (⟨#[]⟩ : ByteArray), .bool false]) ?_ 2 _ rfl; (with_reducible repeat (first | refine blk_drewN ?_ _ | refine blk_drew ?_ | refine blk_alloc ?_ _)); refine blk_put (cs := #[.int .i64 t286, .int .i64 0, .string (⟨#[]⟩ : ByteArray), .bool false]) ?_ 1 _ rfl; (with_reducible repeat (first | refine blk_drewN ?_ _ | refine blk_drew ?_ | refine blk_alloc ?_ _)); refine blk_put (cs := #[.int .i64 0, .int .i64 0, .string (⟨#[]⟩ : ByteArray), .bool false]) ?_ 0 _ rfl; (with_reducible repeat (first | refine blk_drewN ?_ _ | refine blk_drew ?_ | refine blk_alloc ?_ _)); exact BK292.out⟩, ⟨by repeat (first | (with_reducible first | exact HB.out | apply below_alloc | apply pw_below_drewN | apply below_drew1 | refine below_set ?_ GE260.out | refine below_set ?_ GE279.out | refine below_set ?_ GE292.out) | exact HB.out)⟩⟩
                    · rw [if_neg c45] at H
                      have c45b0 : (t278 == 0) = false := beq_eq_false_iff_ne.mpr c45
                      have c45b1 : (t278 != 0) = true := bne_iff_ne.mpr c45
                      have H' := Aside0.mk H
                      clear H
                      go_wp2
                      go_meet
                      case rel => exact ⟨_, (true), (by first | rfl | (simp; done) | (simp [*]; done)), H', ⟨by have := HJ4.out; first | omega | exact Nat.le_refl _⟩, ⟨by (with_reducible repeat (first | refine blk_drewN ?_ _ | refine blk_drew ?_ | refine blk_alloc ?_ _)); refine blk_far ?_ NB260_292.out _; (with_reducible repeat (first | refine blk_drewN ?_ _ | refine blk_drew ?_ | refine blk_alloc ?_ _)); refine blk_far ?_ NB260_292.out _; (with_reducible repeat (first | refine blk_drewN ?_ _ | refine blk_drew ?_ | refine blk_alloc ?_ _)); refine blk_far ?_ NB260_292.out _; (with_reducible repeat (first | refine blk_drewN ?_ _ | refine blk_drew ?_ | refine blk_alloc ?_ _)); refine blk_far ?_ NB260_292.out _; (with_reducible repeat (first | refine blk_drewN ?_ _ | refine blk_drew ?_ | refine blk_alloc ?_ _)); exact BK260.out⟩, ⟨by (with_reducible repeat (first | refine blk_drewN ?_ _ | refine blk_drew ?_ | refine blk_alloc ?_ _)); refine blk_far ?_ NB279_292.out _; (with_reducible repeat (first | refine blk_drewN ?_ _ | refine blk_drew ?_ | refine blk_alloc ?_ _)); refine blk_far ?_ NB279_292.out _; (with_reducible repeat (first | refine blk_drewN ?_ _ | refine blk_drew ?_ | refine blk_alloc ?_ _)); refine blk_far ?_ NB279_292.out _; (with_reducible repeat (first | refine blk_drewN ?_ _ | refine blk_drew ?_ | refine blk_alloc ?_ _)); refine blk_far ?_ NB279_292.out _; (with_reducible repeat (first | refine blk_drewN ?_ _ | refine blk_drew ?_ | refine blk_alloc ?_ _)); exact BK279.out⟩, ⟨by (with_reducible repeat (first | refine blk_drewN ?_ _ | refine blk_drew ?_ | refine blk_alloc ?_ _)); refine blk_put (cs := #[.int .i64 t286, .int .i64 t287, .string t288, .bool false]) ?_ 3 _ rfl; (with_reducible repeat (first | refine blk_drewN ?_ _ | refine blk_drew ?_ | refine blk_alloc ?_ _)); refine blk_put (cs := #[.int .i64 t286, .int .i64 t287, .string (⟨#[]⟩ : ByteArray), .bool false]) ?_ 2 _ rfl; (with_reducible repeat (first | refine blk_drewN ?_ _ | refine blk_drew ?_ | refine blk_alloc ?_ _)); refine blk_put (cs := #[.int .i64 t286, .int .i64 0, .string (⟨#[]⟩ : ByteArray), .bool false]) ?_ 1 _ rfl; (with_reducible repeat (first | refine blk_drewN ?_ _ | refine blk_drew ?_ | refine blk_alloc ?_ _)); refine blk_put (cs := #[.int .i64 0, .int .i64 0, .string (⟨#[]⟩ : ByteArray), .bool false]) ?_ 0 _ rfl; (with_reducible repeat (first | refine blk_drewN ?_ _ | refine blk_drew ?_ | refine blk_alloc ?_ _)); exact BK292.out⟩, ⟨by repeat (first | (with_reducible first | exact HB.out | apply below_alloc | apply pw_below_drewN | apply below_drew1 | refine below_set ?_ GE260.out | refine below_set ?_ GE279.out | refine below_set ?_ GE292.out) | exact HB.out)⟩⟩
                  · rw [if_neg c44] at H
                    have c44b0 : (t265 == 0) = false := beq_eq_false_iff_ne.mpr c44
                    have c44b1 : (t265 != 0) = true := bne_iff_ne.mpr c44
                    (first | rw [c44b0] | (simp only [i64_w, i32_w]; rw [c44b0]) | skip)
                    have H' := Aside0.mk H
                    clear H
                    go_wp2
                    go_meet
                    case rel => exact ⟨_, (true), (by first | rfl | (simp; done) | (simp [*]; done)), H', ⟨by have := HJ4.out; first | omega | exact Nat.le_refl _⟩, ⟨by (with_reducible repeat (first | refine blk_drewN ?_ _ | refine blk_drew ?_ | refine blk_alloc ?_ _)); refine blk_far ?_ NB260_292.out _; (with_reducible repeat (first | refine blk_drewN ?_ _ | refine blk_drew ?_ | refine blk_alloc ?_ _)); refine blk_far ?_ NB260_292.out _; (with_reducible repeat (first | refine blk_drewN ?_ _ | refine blk_drew ?_ | refine blk_alloc ?_ _)); refine blk_far ?_ NB260_292.out _; (with_reducible repeat (first | refine blk_drewN ?_ _ | refine blk_drew ?_ | refine blk_alloc ?_ _)); refine blk_far ?_ NB260_292.out _; (with_reducible repeat (first | refine blk_drewN ?_ _ | refine blk_drew ?_ | refine blk_alloc ?_ _)); exact BK260.out⟩, ⟨by (with_reducible repeat (first | refine blk_drewN ?_ _ | refine blk_drew ?_ | refine blk_alloc ?_ _)); refine blk_far ?_ NB279_292.out _; (with_reducible repeat (first | refine blk_drewN ?_ _ | refine blk_drew ?_ | refine blk_alloc ?_ _)); refine blk_far ?_ NB279_292.out _; (with_reducible repeat (first | refine blk_drewN ?_ _ | refine blk_drew ?_ | refine blk_alloc ?_ _)); refine blk_far ?_ NB279_292.out _; (with_reducible repeat (first | refine blk_drewN ?_ _ | refine blk_drew ?_ | refine blk_alloc ?_ _)); refine blk_far ?_ NB279_292.out _; (with_reducible repeat (first | refine blk_drewN ?_ _ | refine blk_drew ?_ | refine blk_alloc ?_ _)); exact BK279.out⟩, ⟨by (with_reducible repeat (first | refine blk_drewN ?_ _ | refine blk_drew ?_ | refine blk_alloc ?_ _)); refine blk_put (cs := #[.int .i64 t286, .int .i64 t287, .string t288, .bool false]) ?_ 3 _ rfl; (with_reducible repeat (first | refine blk_drewN ?_ _ | refine blk_drew ?_ | refine blk_alloc ?_ _)); refine blk_put (cs := #[.int .i64 t286, .int .i64 t287, .string (⟨#[]⟩ : ByteArray), .bool false]) ?_ 2 _ rfl; (with_reducible repeat (first | refine blk_drewN ?_ _ | refine blk_drew ?_ | refine blk_alloc ?_ _)); refine blk_put (cs := #[.int .i64 t286, .int .i64 0, .string (⟨#[]⟩ : ByteArray), .bool false]) ?_ 1 _ rfl; (with_reducible repeat (first | refine blk_drewN ?_ _ | refine blk_drew ?_ | refine blk_alloc ?_ _)); refine blk_put (cs := #[.int .i64 0, .int .i64 0, .string (⟨#[]⟩ : ByteArray), .bool false]) ?_ 0 _ rfl; (with_reducible repeat (first | refine blk_drewN ?_ _ | refine blk_drew ?_ | refine blk_alloc ?_ _)); exact BK292.out⟩, ⟨by repeat (first | (with_reducible first | exact HB.out | apply below_alloc | apply pw_below_drewN | apply below_drew1 | refine below_set ?_ GE260.out | refine below_set ?_ GE279.out | refine below_set ?_ GE292.out) | exact HB.out)⟩⟩
                case rest =>
                  clear HC20
                  try clear c1
                  try clear p2
                  try clear c3
                  try clear c4
                  try clear c5
                  try clear c6
                  try clear p6
                  try clear c7
                  try clear c8
                  try clear c9
                  try clear c9b0
                  try clear c9b1
                  try clear c11
                  try clear c12
                  try clear c14
                  try clear c15
                  try clear c16
                  try clear c18
                  try clear c32
                  try clear c41
                  try clear c42
                  try clear c44
                  try clear c44b0
                  try clear c44b1
                  try clear c45
                  try clear c45b0
                  try clear c45b1
                  try clear c46
                  try clear c46b0
                  try clear c46b1
                  try clear c47
                  try clear c47b0
                  try clear c48
                  try clear c49
                  try clear c51
                  try clear c53
                  try clear c53b0
                  try clear c54
                  try clear c55
                  try clear c57
                  try clear c60
                  try clear c60b0
                  try clear c60b1
                  try clear c61
                  try clear c62
                  try clear c64
                  try clear p64
                  try clear c67
                  try clear c68
                  try clear c70
                  try clear hcz10_0
                  try clear hcz10_1
                  try clear hcz10_2
                  try clear hcz10_3
                  try clear hcz21_0
                  try clear hcz21_1
                  try clear hcz21_2
                  try clear hcz21_3
                  try clear hcz23_0
                  try clear hcz23_1
                  try clear hcz23_2
                  try clear hcz23_3
                  try clear hcz28_0
                  try clear hcz28_1
                  try clear hcz28_2
                  try clear hcz28_3
                  try clear hcz33_0
                  try clear hcz33_1
                  try clear hcz33_2
                  try clear hcz33_3
                  try clear hcz34_0
                  try clear hcz34_1
                  try clear hcz34_2
                  try clear hcz34_3
                  try clear hcz43_0
                  try clear hcz43_1
                  try clear hcz43_2
                  try clear hcz43_3
                  try clear hcz50_0
                  try clear hcz50_1
                  try clear hcz50_2
                  try clear hcz50_3
                  try clear hcz52_0
                  try clear hcz52_1
                  try clear hcz52_2
                  try clear hcz52_3
                  try clear hcz56_0
                  try clear hcz56_1
                  try clear hcz56_2
                  try clear hcz56_3
                  try clear hcz58_0
                  try clear hcz58_1
                  try clear hcz58_2
                  try clear hcz58_3
                  try clear hcz59_0
                  try clear hcz59_1
                  try clear hcz59_2
                  try clear hcz59_3
                  try clear hcz63_0
                  try clear hcz63_1
                  try clear hcz63_2
                  try clear hcz63_3
                  try clear hcz65_0
                  try clear hcz65_1
                  try clear hcz65_2
                  try clear hcz65_3
                  try clear hcz66_0
                  try clear hcz66_1
                  try clear hcz66_2
                  try clear hcz66_3
                  try clear hcz69_0
                  try clear hcz69_1
                  try clear hcz69_2
                  try clear hcz69_3
                  try clear hcz71_0
                  try clear hcz71_1
                  try clear hcz71_2
                  try clear hcz71_3
                  try clear hcz72_0
                  try clear hcz72_1
                  try clear hcz72_2
                  try clear hcz72_3
                  try clear hfz10_0
                  try clear hfz10_1
                  try clear hfz10_2
                  try clear hfz10_3
                  try clear hfz21_0
                  try clear hfz21_1
                  try clear hfz21_2
                  try clear hfz21_3
                  try clear hfz23_0
                  try clear hfz23_1
                  try clear hfz23_2
                  try clear hfz23_3
                  try clear hfz28_0
                  try clear hfz28_1
                  try clear hfz28_2
                  try clear hfz28_3
                  try clear hfz33_0
                  try clear hfz33_1
                  try clear hfz33_2
                  try clear hfz33_3
                  try clear hfz34_0
                  try clear hfz34_1
                  try clear hfz34_2
                  try clear hfz34_3
                  try clear hfz43_0
                  try clear hfz43_1
                  try clear hfz43_2
                  try clear hfz43_3
                  try clear hfz50_0
                  try clear hfz50_1
                  try clear hfz50_2
                  try clear hfz50_3
                  try clear hfz52_0
                  try clear hfz52_1
                  try clear hfz52_2
                  try clear hfz52_3
                  try clear hfz56_0
                  try clear hfz56_1
                  try clear hfz56_2
                  try clear hfz56_3
                  try clear hfz58_0
                  try clear hfz58_1
                  try clear hfz58_2
                  try clear hfz58_3
                  try clear hfz59_0
                  try clear hfz59_1
                  try clear hfz59_2
                  try clear hfz59_3
                  try clear hfz63_0
                  try clear hfz63_1
                  try clear hfz63_2
                  try clear hfz63_3
                  try clear hfz65_0
                  try clear hfz65_1
                  try clear hfz65_2
                  try clear hfz65_3
                  try clear hfz66_0
                  try clear hfz66_1
                  try clear hfz66_2
                  try clear hfz66_3
                  try clear hfz69_0
                  try clear hfz69_1
                  try clear hfz69_2
                  try clear hfz69_3
                  try clear hfz71_0
                  try clear hfz71_1
                  try clear hfz71_2
                  try clear hfz71_3
                  try clear hfz72_0
                  try clear hfz72_1
                  try clear hfz72_2
                  try clear hfz72_3
                  try clear p2
                  obtain ⟨kq, x107_19, rfl, HA, HJ19, BK260, BK279, BK292, HB⟩ := hcut
                  cases kq with
                  | zero => exact absurd HA.out (by simp [winnowerlaw06_ValueBack.j1])
                  | succ kj19 =>
                    have H := HA.out
                    clear HA
                    simp only [winnowerlaw06_ValueBack.j1] at H
                    by_cases c73 : x107_19 = true
                    · subst c73
                      have H1 : (some false) = some r := by rw [if_pos rfl] at H; exact H
                      clear H
                      have H := H1
                      clear H1
                      obtain rfl := Option.some.inj H
                      go_wp2
                      go_ret
                      exact ⟨by first | rfl | (simp [errW_none, errW_some] <;> rfl) | (refine congrArg (fun b_ : Bool => Ending.returned (Value.bool b_)) ?_; simp; done) | (simp [*, errW_none, errW_some] <;> rfl), by repeat (first | (with_reducible first | exact HB.out | apply below_alloc | apply pw_below_drewN | apply below_drew1 | refine below_set ?_ GE260.out | refine below_set ?_ GE279.out | refine below_set ?_ GE292.out) | exact HB.out)⟩
                    · replace c73 := Bool.eq_false_iff.mpr c73
                      subst c73
                      have H1 : ((value_Get.f l1 a2).bind fun bt293 => (if bt293.2.2.2.2.2 = 0 then ((value_Put.f ([] : List Int) bt293.1 bt293.2.1 bt293.2.2.1 bt293.2.2.2.1).bind fun bt300 => (if bt300.2 = 0 then (winnowerlaw06_ValueBack.j2 kj19 l1 a2 bt293.2.2.2.2.1 bt300.1 (decide (bt293.2.2.2.2.1 > (l1.length : Int))) bt293.1 bt293.2.1 bt293.2.2.1 bt293.2.2.2.1) else (winnowerlaw06_ValueBack.j2 kj19 l1 a2 bt293.2.2.2.2.1 bt300.1 true bt293.1 bt293.2.1 bt293.2.2.1 bt293.2.2.2.1))) else (if (bt293.1 == 0 && (bt293.2.1 == 0 && (bt293.2.2.1.toList == ([] : List UInt8) && (!bt293.2.2.2.1)))) = true then (some (bt293.2.2.2.2.1 == 0)) else (some false)))) = some r := by rw [if_neg (show ¬ (false = true) by decide)] at H; exact H
                      clear H
                      have H := H1
                      clear H1
                      replace H := Option.bind_eq_some_iff.mp H
                      obtain ⟨⟨t293, t294, t295, t296, t297, t298⟩, A740, H⟩ := H
                      replace H : (if t298 = 0 then ((value_Put.f ([] : List Int) t293 t294 t295 t296).bind fun bt300 => (if bt300.2 = 0 then (winnowerlaw06_ValueBack.j2 kj19 l1 a2 t297 bt300.1 (decide (t297 > (l1.length : Int))) t293 t294 t295 t296) else (winnowerlaw06_ValueBack.j2 kj19 l1 a2 t297 bt300.1 true t293 t294 t295 t296))) else (if (t293 == 0 && (t294 == 0 && (t295.toList == ([] : List UInt8) && (!t296)))) = true then (some (t297 == 0)) else (some false))) = some r := H
                      have A74 := Aside0.mk A740
                      clear A740
                      by_cases c75 : t298 = 0
                      · rw [if_pos c75] at H
                        have c75b0 : (t298 == 0) = true := beq_iff_eq.mpr c75
                        have c75b1 : (t298 != 0) = false := bne_eq_false_iff_eq.mpr c75
                        clear c75
                        replace H := Option.bind_eq_some_iff.mp H
                        obtain ⟨⟨t300, t303⟩, A760, H⟩ := H
                        replace H : (if t303 = 0 then (winnowerlaw06_ValueBack.j2 kj19 l1 a2 t297 t300 (decide (t297 > (l1.length : Int))) t293 t294 t295 t296) else (winnowerlaw06_ValueBack.j2 kj19 l1 a2 t297 t300 true t293 t294 t295 t296)) = some r := H
                        have A76 := Aside0.mk A760
                        clear A760
                        have HC77 := Aside0.mk H
                        clear H
                        go_upto_region 16 with (first | ((with_reducible refine gate_callee (f := 16) rfl ?_); refine goesL_ (some 111) rfl rfl Try.func16 (by kernel_rfl) rfl #[.slice A1 l1.length c1, .int .i64 a2] rfl (by (try simp only [List.map_toArray, List.map_cons, List.map_nil]); first | done | rfl | (simp only [List.length_drop, List.length_take]; rfl)) ?_; (with_reducible refine (value_Get.calls _ _ l1 a2 t293 t294 t295 t296 t297 t298 _ ?side1 ?side2 A74.out).mono ?_); (case side1 => repeat (first | exact (Kd.C_below HR1.out HB.out) | (with_reducible refine Kd.C_alloc ?_ _) | (with_reducible refine Kd.C_drewN ?_ _) | (with_reducible refine Kd.C_drew ?_))); (case side2 => exact HC1.out); rintro e w78 ⟨rfl, hb⟩; refine ⟨_, rfl, ?_⟩; have n0_ := Aside0.mk (blk_below (g := gb260) (o := .cells #[.int .i64 a0_0, .int .i64 a0_1, .string a0_2, .bool a0_3] 23 (0, 0)) (by (with_reducible repeat (first | refine blk_drewN ?_ _ | refine blk_drew ?_ | refine blk_alloc ?_ _)); exact BK260.out) hb); have n1_ := Aside0.mk (blk_below (g := gb279) (o := .cells #[.int .i64 t273, .int .i64 t274, .string t275, .bool t276] 23 (0, 0)) (by (with_reducible repeat (first | refine blk_drewN ?_ _ | refine blk_drew ?_ | refine blk_alloc ?_ _)); exact BK279.out) hb); have n2_ := Aside0.mk (blk_below (g := gb292) (o := .cells #[.int .i64 t286, .int .i64 t287, .string t288, .bool t289] 23 (0, 0)) (by (with_reducible repeat (first | refine blk_drewN ?_ _ | refine blk_drew ?_ | refine blk_alloc ?_ _)); exact BK292.out) hb); have n3_ := Aside0.mk (below_step (by repeat (first | (with_reducible first | exact HB.out | apply below_alloc | apply pw_below_drewN | apply below_drew1 | refine below_set ?_ GE260.out | refine below_set ?_ GE279.out | refine below_set ?_ GE292.out) | exact HB.out)) hb); clear BK260; clear BK279; clear BK292; clear HB; have BK260 := n0_; have BK279 := n1_; have BK292 := n2_; have HB := n3_; clear n0_ n1_ n2_ n3_; (try clear hb); (try clear hb2); (try clear hk); (try clear hi)) | ((with_reducible refine gate_dst (N := 17) rfl ?_); (try (refine gate_guard (by rfl) ?_; dsimp only)); refine box_event ?hg (N := 17) ?hd (cs := #[.int .i64 0, .int .i64 0, .string (⟨#[]⟩ : ByteArray), .bool false]) (t := 23) ?hr ?_; (case hd => rfl); (case hg => rfl); (case hr => first | (go_simp; done) | (go_simp; rfl)); intro gb299 hg w79 hbox hb; have n0_ := Aside0.mk (blk_below (g := gb260) (o := .cells #[.int .i64 a0_0, .int .i64 a0_1, .string a0_2, .bool a0_3] 23 (0, 0)) (by (with_reducible repeat (first | refine blk_drewN ?_ _ | refine blk_drew ?_ | refine blk_alloc ?_ _)); exact BK260.out) hb); have n1_ := Aside0.mk (blk_below (g := gb279) (o := .cells #[.int .i64 t273, .int .i64 t274, .string t275, .bool t276] 23 (0, 0)) (by (with_reducible repeat (first | refine blk_drewN ?_ _ | refine blk_drew ?_ | refine blk_alloc ?_ _)); exact BK279.out) hb); have n2_ := Aside0.mk (blk_below (g := gb292) (o := .cells #[.int .i64 t286, .int .i64 t287, .string t288, .bool t289] 23 (0, 0)) (by (with_reducible repeat (first | refine blk_drewN ?_ _ | refine blk_drew ?_ | refine blk_alloc ?_ _)); exact BK292.out) hb); have n3_ := Aside0.mk (below_step (by repeat (first | (with_reducible first | exact HB.out | apply below_alloc | apply pw_below_drewN | apply below_drew1 | refine below_set ?_ GE260.out | refine below_set ?_ GE279.out | refine below_set ?_ GE292.out) | exact HB.out)) hb); have n4_ := Aside0.mk (hbox); have n5_ := Aside0.mk ((by rw [hg]; exact (below_size (by repeat (first | (with_reducible first | exact HB.out | apply below_alloc | apply pw_below_drewN | apply below_drew1 | refine below_set ?_ GE260.out | refine below_set ?_ GE279.out | refine below_set ?_ GE292.out) | exact HB.out))) : w.heap.size ≤ gb299)); have n6_ := Aside0.mk ((by rw [hg]; exact (below_size (by repeat (first | (with_reducible first | exact HB.out | apply below_alloc | apply pw_below_drewN | apply below_drew1 | refine below_set ?_ GE260.out | refine below_set ?_ GE279.out | refine below_set ?_ GE292.out) | exact HB.out))) : w.heap.size ≤ gb299)); have n7_ := Aside0.mk ((by rw [hg]; exact Nat.ne_of_lt (blk_lt (g := gb260) (o := .cells #[.int .i64 a0_0, .int .i64 a0_1, .string a0_2, .bool a0_3] 23 (0, 0)) (by (with_reducible repeat (first | refine blk_drewN ?_ _ | refine blk_drew ?_ | refine blk_alloc ?_ _)); exact BK260.out)) : gb260 ≠ gb299)); have n8_ := Aside0.mk ((by rw [hg]; exact Nat.ne_of_gt (blk_lt (g := gb260) (o := .cells #[.int .i64 a0_0, .int .i64 a0_1, .string a0_2, .bool a0_3] 23 (0, 0)) (by (with_reducible repeat (first | refine blk_drewN ?_ _ | refine blk_drew ?_ | refine blk_alloc ?_ _)); exact BK260.out)) : gb299 ≠ gb260)); have n9_ := Aside0.mk ((by rw [hg]; exact Nat.ne_of_lt (blk_lt (g := gb279) (o := .cells #[.int .i64 t273, .int .i64 t274, .string t275, .bool t276] 23 (0, 0)) (by (with_reducible repeat (first | refine blk_drewN ?_ _ | refine blk_drew ?_ | refine blk_alloc ?_ _)); exact BK279.out)) : gb279 ≠ gb299)); have n10_ := Aside0.mk ((by rw [hg]; exact Nat.ne_of_gt (blk_lt (g := gb279) (o := .cells #[.int .i64 t273, .int .i64 t274, .string t275, .bool t276] 23 (0, 0)) (by (with_reducible repeat (first | refine blk_drewN ?_ _ | refine blk_drew ?_ | refine blk_alloc ?_ _)); exact BK279.out)) : gb299 ≠ gb279)); have n11_ := Aside0.mk ((by rw [hg]; exact Nat.ne_of_lt (blk_lt (g := gb292) (o := .cells #[.int .i64 t286, .int .i64 t287, .string t288, .bool t289] 23 (0, 0)) (by (with_reducible repeat (first | refine blk_drewN ?_ _ | refine blk_drew ?_ | refine blk_alloc ?_ _)); exact BK292.out)) : gb292 ≠ gb299)); have n12_ := Aside0.mk ((by rw [hg]; exact Nat.ne_of_gt (blk_lt (g := gb292) (o := .cells #[.int .i64 t286, .int .i64 t287, .string t288, .bool t289] 23 (0, 0)) (by (with_reducible repeat (first | refine blk_drewN ?_ _ | refine blk_drew ?_ | refine blk_alloc ?_ _)); exact BK292.out)) : gb299 ≠ gb292)); clear BK260; clear BK279; clear BK292; clear HB; have BK260 := n0_; have BK279 := n1_; have BK292 := n2_; have HB := n3_; have BK299 := n4_; have GW299 := n5_; have GE299 := n6_; have NB260_299 := n7_; have NB299_260 := n8_; have NB279_299 := n9_; have NB299_279 := n10_; have NB292_299 := n11_; have NB299_292 := n12_; clear n0_ n1_ n2_ n3_ n4_ n5_ n6_ n7_ n8_ n9_ n10_ n11_ n12_; clear hb hbox hg; have hnb80 := NB299_260.out; have hnc80 := NB260_299.out; have hnb81 := NB299_279.out; have hnc81 := NB279_299.out; have hnb82 := NB299_292.out; have hnc82 := NB292_299.out; have hcz83_0 : w79.cell? ⟨gb299, 0, none⟩ = some (.int .i64 0) := (blk_cell BK299.out 0).trans rfl; have hcz83_1 : w79.cell? ⟨gb299, 1, none⟩ = some (.int .i64 0) := (blk_cell BK299.out 1).trans rfl; have hcz83_2 : w79.cell? ⟨gb299, 2, none⟩ = some (.string (⟨#[]⟩ : ByteArray)) := (blk_cell BK299.out 2).trans rfl; have hcz83_3 : w79.cell? ⟨gb299, 3, none⟩ = some (.bool false) := (blk_cell BK299.out 3).trans rfl; have hfz83_0 := blk_frozen BK299.out 0; have hfz83_1 := blk_frozen BK299.out 1; have hfz83_2 := blk_frozen BK299.out 2; have hfz83_3 := blk_frozen BK299.out 3) | ((with_reducible refine gate_store (t := 23) (p := 17) rfl ?_); refine store_event (t := 23) (p := 17) (v := ?vo_w84) (w1 := ((((w79.setCell ⟨gb299, 0, none⟩ (.int .i64 t293)).setCell ⟨gb299, 1, none⟩ (.int .i64 t294)).setCell ⟨gb299, 2, none⟩ (.string t295)).setCell ⟨gb299, 3, none⟩ (.bool t296))) ?hg ?ho ?hn ?hr ?_; (case ho => rfl); (case hg => rfl); (case hn => rfl); (case hr => first | (go_simp; done) | (go_simp; rfl)); intro w84 hw; have n0_ : Aside0 (w84.heap[gb260]? = some (.cells #[.int .i64 a0_0, .int .i64 a0_1, .string a0_2, .bool a0_3] 23 (0, 0))) := ⟨(by rw [hw]; exact (by (with_reducible repeat (first | refine blk_drewN ?_ _ | refine blk_drew ?_ | refine blk_alloc ?_ _)); refine blk_far ?_ NB260_299.out _; (with_reducible repeat (first | refine blk_drewN ?_ _ | refine blk_drew ?_ | refine blk_alloc ?_ _)); refine blk_far ?_ NB260_299.out _; (with_reducible repeat (first | refine blk_drewN ?_ _ | refine blk_drew ?_ | refine blk_alloc ?_ _)); refine blk_far ?_ NB260_299.out _; (with_reducible repeat (first | refine blk_drewN ?_ _ | refine blk_drew ?_ | refine blk_alloc ?_ _)); refine blk_far ?_ NB260_299.out _; (with_reducible repeat (first | refine blk_drewN ?_ _ | refine blk_drew ?_ | refine blk_alloc ?_ _)); exact BK260.out))⟩; have n1_ : Aside0 (w84.heap[gb279]? = some (.cells #[.int .i64 t273, .int .i64 t274, .string t275, .bool t276] 23 (0, 0))) := ⟨(by rw [hw]; exact (by (with_reducible repeat (first | refine blk_drewN ?_ _ | refine blk_drew ?_ | refine blk_alloc ?_ _)); refine blk_far ?_ NB279_299.out _; (with_reducible repeat (first | refine blk_drewN ?_ _ | refine blk_drew ?_ | refine blk_alloc ?_ _)); refine blk_far ?_ NB279_299.out _; (with_reducible repeat (first | refine blk_drewN ?_ _ | refine blk_drew ?_ | refine blk_alloc ?_ _)); refine blk_far ?_ NB279_299.out _; (with_reducible repeat (first | refine blk_drewN ?_ _ | refine blk_drew ?_ | refine blk_alloc ?_ _)); refine blk_far ?_ NB279_299.out _; (with_reducible repeat (first | refine blk_drewN ?_ _ | refine blk_drew ?_ | refine blk_alloc ?_ _)); exact BK279.out))⟩; have n2_ : Aside0 (w84.heap[gb292]? = some (.cells #[.int .i64 t286, .int .i64 t287, .string t288, .bool t289] 23 (0, 0))) := ⟨(by rw [hw]; exact (by (with_reducible repeat (first | refine blk_drewN ?_ _ | refine blk_drew ?_ | refine blk_alloc ?_ _)); refine blk_far ?_ NB292_299.out _; (with_reducible repeat (first | refine blk_drewN ?_ _ | refine blk_drew ?_ | refine blk_alloc ?_ _)); refine blk_far ?_ NB292_299.out _; (with_reducible repeat (first | refine blk_drewN ?_ _ | refine blk_drew ?_ | refine blk_alloc ?_ _)); refine blk_far ?_ NB292_299.out _; (with_reducible repeat (first | refine blk_drewN ?_ _ | refine blk_drew ?_ | refine blk_alloc ?_ _)); refine blk_far ?_ NB292_299.out _; (with_reducible repeat (first | refine blk_drewN ?_ _ | refine blk_drew ?_ | refine blk_alloc ?_ _)); exact BK292.out))⟩; have n3_ : Aside0 (w84.heap[gb299]? = some (.cells #[.int .i64 t293, .int .i64 t294, .string t295, .bool t296] 23 (0, 0))) := ⟨(by rw [hw]; exact (by (with_reducible repeat (first | refine blk_drewN ?_ _ | refine blk_drew ?_ | refine blk_alloc ?_ _)); refine blk_put (cs := #[.int .i64 t293, .int .i64 t294, .string t295, .bool false]) ?_ 3 _ rfl; (with_reducible repeat (first | refine blk_drewN ?_ _ | refine blk_drew ?_ | refine blk_alloc ?_ _)); refine blk_put (cs := #[.int .i64 t293, .int .i64 t294, .string (⟨#[]⟩ : ByteArray), .bool false]) ?_ 2 _ rfl; (with_reducible repeat (first | refine blk_drewN ?_ _ | refine blk_drew ?_ | refine blk_alloc ?_ _)); refine blk_put (cs := #[.int .i64 t293, .int .i64 0, .string (⟨#[]⟩ : ByteArray), .bool false]) ?_ 1 _ rfl; (with_reducible repeat (first | refine blk_drewN ?_ _ | refine blk_drew ?_ | refine blk_alloc ?_ _)); refine blk_put (cs := #[.int .i64 0, .int .i64 0, .string (⟨#[]⟩ : ByteArray), .bool false]) ?_ 0 _ rfl; (with_reducible repeat (first | refine blk_drewN ?_ _ | refine blk_drew ?_ | refine blk_alloc ?_ _)); exact BK299.out))⟩; have n4_ : Aside0 (Below w.heap.size w w84) := ⟨(by rw [hw]; exact (by repeat (first | (with_reducible first | exact HB.out | apply below_alloc | apply pw_below_drewN | apply below_drew1 | refine below_set ?_ GE260.out | refine below_set ?_ GE279.out | refine below_set ?_ GE292.out | refine below_set ?_ GE299.out) | exact HB.out)))⟩; clear hw; clear BK260; clear BK279; clear BK292; clear BK299; clear HB; have BK260 := n0_; have BK279 := n1_; have BK292 := n2_; have BK299 := n3_; have HB := n4_; clear n0_ n1_ n2_ n3_ n4_; have hcz85_0 : w84.cell? ⟨gb299, 0, none⟩ = some (.int .i64 t293) := (blk_cell BK299.out 0).trans rfl; have hcz85_1 : w84.cell? ⟨gb299, 1, none⟩ = some (.int .i64 t294) := (blk_cell BK299.out 1).trans rfl; have hcz85_2 : w84.cell? ⟨gb299, 2, none⟩ = some (.string t295) := (blk_cell BK299.out 2).trans rfl; have hcz85_3 : w84.cell? ⟨gb299, 3, none⟩ = some (.bool t296) := (blk_cell BK299.out 3).trans rfl; have hfz85_0 := blk_frozen BK299.out 0; have hfz85_1 := blk_frozen BK299.out 1; have hfz85_2 := blk_frozen BK299.out 2; have hfz85_3 := blk_frozen BK299.out 3) | ((with_reducible refine gate_callee (f := 9) rfl ?_); refine goesL_ (some 126) rfl rfl Try.func9 (by kernel_rfl) rfl #[.slice none 0 0, .agg #[.int .i64 t293, .int .i64 t294, .string t295, .bool t296]] rfl (by (try simp only [List.map_toArray, List.map_cons, List.map_nil]); first | done | rfl | (simp only [List.length_drop, List.length_take]; rfl)) ?_; (refine (value_Put.calls (fun k_ => some k_ = (.slice none 0 0 : Value).ownBlock) (.slice none 0 0) ([] : List Int) t293 t294 t295 t296 t300 t303 w _ ?side1 ?side2 A76.out).mono ?_); (case side1 => repeat (first | (with_reducible first | exact HB.out | apply below_alloc | apply pw_below_drewN | apply below_drew1 | refine below_set ?_ GE260.out | refine below_set ?_ GE279.out | refine below_set ?_ GE292.out | refine below_set ?_ GE299.out) | exact HB.out)); (case side2 => exact Kd.R_nil _ _ _ _ _); rintro e w86 ⟨v301, rfl, ho0, hb, hkp⟩; refine ⟨_, rfl, ?_⟩; have n0_ := Aside0.mk (blk_kept (by (with_reducible repeat (first | refine blk_drewN ?_ _ | refine blk_drew ?_ | refine blk_alloc ?_ _)); exact BK260.out) hkp (fun hs_ => (fun e_ => by simp [Value.ownBlock] at e_) hs_)); have n1_ := Aside0.mk (blk_kept (by (with_reducible repeat (first | refine blk_drewN ?_ _ | refine blk_drew ?_ | refine blk_alloc ?_ _)); exact BK279.out) hkp (fun hs_ => (fun e_ => by simp [Value.ownBlock] at e_) hs_)); have n2_ := Aside0.mk (blk_kept (by (with_reducible repeat (first | refine blk_drewN ?_ _ | refine blk_drew ?_ | refine blk_alloc ?_ _)); exact BK292.out) hkp (fun hs_ => (fun e_ => by simp [Value.ownBlock] at e_) hs_)); have n3_ := Aside0.mk (blk_kept (by (with_reducible repeat (first | refine blk_drewN ?_ _ | refine blk_drew ?_ | refine blk_alloc ?_ _)); exact BK299.out) hkp (fun hs_ => (fun e_ => by simp [Value.ownBlock] at e_) hs_)); have n4_ := Aside0.mk (Kd.R_mono (ok' := fun k_ => True) ho0 (fun k_ hk_ => trivial)); have n5_ := Aside0.mk (hb); clear BK260; clear BK279; clear BK292; clear BK299; clear HB; have BK260 := n0_; have BK279 := n1_; have BK292 := n2_; have BK299 := n3_; have HO302 := n4_; have HB := n5_; clear n0_ n1_ n2_ n3_ n4_ n5_; (try clear hb); (try clear hkp); (try clear ho0)))
                        (try simp only [Act.put, List.setIfInBounds_toArray, List.set_cons_zero, List.set_cons_succ])
                        go_cut [136] (fun v136 wc => ∃ (kq : Nat) (x136_76 : Bool), v136 = .bool x136_76 ∧ Aside0 (winnowerlaw06_ValueBack.j2 kq l1 a2 t297 t300 x136_76 t293 t294 t295 t296 = some r) ∧ Aside0 (kq ≤ kj19) ∧ Aside0 (Kd.R (Kd.int .u8) 5 wc w.heap.size (fun _ => True) v301 t300) ∧ Aside0 (wc.heap[gb260]? = some (.cells #[.int .i64 a0_0, .int .i64 a0_1, .string a0_2, .bool a0_3] 23 (0, 0))) ∧ Aside0 (wc.heap[gb279]? = some (.cells #[.int .i64 t273, .int .i64 t274, .string t275, .bool t276] 23 (0, 0))) ∧ Aside0 (wc.heap[gb292]? = some (.cells #[.int .i64 t286, .int .i64 t287, .string t288, .bool t289] 23 (0, 0))) ∧ Aside0 (wc.heap[gb299]? = some (.cells #[.int .i64 t293, .int .i64 t294, .string t295, .bool t296] 23 (0, 0))) ∧ Aside0 (Below w.heap.size w wc))
                        case first =>
                          have H := HC77.out
                          clear HC77
                          by_cases c87 : t303 = 0
                          · rw [if_pos c87] at H
                            have c87b0 : (t303 == 0) = true := beq_iff_eq.mpr c87
                            have c87b1 : (t303 != 0) = false := bne_eq_false_iff_eq.mpr c87
                            clear c87
                            (first | rw [c87b0] | (simp only [i64_w, i32_w]; rw [c87b0]) | skip)
                            have H' := Aside0.mk H
                            clear H
                            go_wp2
                            go_meet
                            case rel => exact ⟨_, (decide (t297 > (l1.length : Int))), (by first | rfl | (simp; done) | (simp [*]; done)), H', ⟨by have := HJ4.out; have := HJ19.out; first | omega | exact Nat.le_refl _⟩, ⟨by (with_reducible repeat (first | apply Kd.R_alloc | apply Kd.R_drewN | apply Kd.R_drew)); exact HO302.out⟩, ⟨by (with_reducible repeat (first | refine blk_drewN ?_ _ | refine blk_drew ?_ | refine blk_alloc ?_ _)); exact BK260.out⟩, ⟨by (with_reducible repeat (first | refine blk_drewN ?_ _ | refine blk_drew ?_ | refine blk_alloc ?_ _)); exact BK279.out⟩, ⟨by (with_reducible repeat (first | refine blk_drewN ?_ _ | refine blk_drew ?_ | refine blk_alloc ?_ _)); exact BK292.out⟩, ⟨by (with_reducible repeat (first | refine blk_drewN ?_ _ | refine blk_drew ?_ | refine blk_alloc ?_ _)); exact BK299.out⟩, ⟨by repeat (first | (with_reducible first | exact HB.out | apply below_alloc | apply pw_below_drewN | apply below_drew1 | refine below_set ?_ GE260.out | refine below_set ?_ GE279.out | refine below_set ?_ GE292.out | refine below_set ?_ GE299.out) | exact HB.out)⟩⟩
                          · rw [if_neg c87] at H
                            have c87b0 : (t303 == 0) = false := beq_eq_false_iff_ne.mpr c87
                            have c87b1 : (t303 != 0) = true := bne_iff_ne.mpr c87
                            (first | rw [c87b0] | (simp only [i64_w, i32_w]; rw [c87b0]) | skip)
                            have H' := Aside0.mk H
                            clear H
                            go_wp2
                            go_meet
                            case rel => exact ⟨_, (true), (by first | rfl | (simp; done) | (simp [*]; done)), H', ⟨by have := HJ4.out; have := HJ19.out; first | omega | exact Nat.le_refl _⟩, ⟨by (with_reducible repeat (first | apply Kd.R_alloc | apply Kd.R_drewN | apply Kd.R_drew)); exact HO302.out⟩, ⟨by (with_reducible repeat (first | refine blk_drewN ?_ _ | refine blk_drew ?_ | refine blk_alloc ?_ _)); exact BK260.out⟩, ⟨by (with_reducible repeat (first | refine blk_drewN ?_ _ | refine blk_drew ?_ | refine blk_alloc ?_ _)); exact BK279.out⟩, ⟨by (with_reducible repeat (first | refine blk_drewN ?_ _ | refine blk_drew ?_ | refine blk_alloc ?_ _)); exact BK292.out⟩, ⟨by (with_reducible repeat (first | refine blk_drewN ?_ _ | refine blk_drew ?_ | refine blk_alloc ?_ _)); exact BK299.out⟩, ⟨by repeat (first | (with_reducible first | exact HB.out | apply below_alloc | apply pw_below_drewN | apply below_drew1 | refine below_set ?_ GE260.out | refine below_set ?_ GE279.out | refine below_set ?_ GE292.out | refine below_set ?_ GE299.out) | exact HB.out)⟩⟩
                        case rest =>
                          clear HC77
                          try clear c1
                          try clear p2
                          try clear c3
                          try clear c4
                          try clear c5
                          try clear c6
                          try clear p6
                          try clear c7
                          try clear c8
                          try clear c9
                          try clear c9b0
                          try clear c9b1
                          try clear c11
                          try clear c12
                          try clear c14
                          try clear c15
                          try clear c16
                          try clear c18
                          try clear c32
                          try clear c41
                          try clear c42
                          try clear c44
                          try clear c44b0
                          try clear c44b1
                          try clear c45
                          try clear c45b0
                          try clear c45b1
                          try clear c46
                          try clear c46b0
                          try clear c46b1
                          try clear c47
                          try clear c47b0
                          try clear c48
                          try clear c49
                          try clear c51
                          try clear c53
                          try clear c53b0
                          try clear c54
                          try clear c55
                          try clear c57
                          try clear c60
                          try clear c60b0
                          try clear c60b1
                          try clear c61
                          try clear c62
                          try clear c64
                          try clear p64
                          try clear c67
                          try clear c68
                          try clear c70
                          try clear c73
                          try clear c75
                          try clear c75b0
                          try clear c75b1
                          try clear c80
                          try clear c81
                          try clear c82
                          try clear c87
                          try clear c87b0
                          try clear c87b1
                          try clear hcz10_0
                          try clear hcz10_1
                          try clear hcz10_2
                          try clear hcz10_3
                          try clear hcz21_0
                          try clear hcz21_1
                          try clear hcz21_2
                          try clear hcz21_3
                          try clear hcz23_0
                          try clear hcz23_1
                          try clear hcz23_2
                          try clear hcz23_3
                          try clear hcz28_0
                          try clear hcz28_1
                          try clear hcz28_2
                          try clear hcz28_3
                          try clear hcz33_0
                          try clear hcz33_1
                          try clear hcz33_2
                          try clear hcz33_3
                          try clear hcz34_0
                          try clear hcz34_1
                          try clear hcz34_2
                          try clear hcz34_3
                          try clear hcz43_0
                          try clear hcz43_1
                          try clear hcz43_2
                          try clear hcz43_3
                          try clear hcz50_0
                          try clear hcz50_1
                          try clear hcz50_2
                          try clear hcz50_3
                          try clear hcz52_0
                          try clear hcz52_1
                          try clear hcz52_2
                          try clear hcz52_3
                          try clear hcz56_0
                          try clear hcz56_1
                          try clear hcz56_2
                          try clear hcz56_3
                          try clear hcz58_0
                          try clear hcz58_1
                          try clear hcz58_2
                          try clear hcz58_3
                          try clear hcz59_0
                          try clear hcz59_1
                          try clear hcz59_2
                          try clear hcz59_3
                          try clear hcz63_0
                          try clear hcz63_1
                          try clear hcz63_2
                          try clear hcz63_3
                          try clear hcz65_0
                          try clear hcz65_1
                          try clear hcz65_2
                          try clear hcz65_3
                          try clear hcz66_0
                          try clear hcz66_1
                          try clear hcz66_2
                          try clear hcz66_3
                          try clear hcz69_0
                          try clear hcz69_1
                          try clear hcz69_2
                          try clear hcz69_3
                          try clear hcz71_0
                          try clear hcz71_1
                          try clear hcz71_2
                          try clear hcz71_3
                          try clear hcz72_0
                          try clear hcz72_1
                          try clear hcz72_2
                          try clear hcz72_3
                          try clear hcz83_0
                          try clear hcz83_1
                          try clear hcz83_2
                          try clear hcz83_3
                          try clear hcz85_0
                          try clear hcz85_1
                          try clear hcz85_2
                          try clear hcz85_3
                          try clear hfz10_0
                          try clear hfz10_1
                          try clear hfz10_2
                          try clear hfz10_3
                          try clear hfz21_0
                          try clear hfz21_1
                          try clear hfz21_2
                          try clear hfz21_3
                          try clear hfz23_0
                          try clear hfz23_1
                          try clear hfz23_2
                          try clear hfz23_3
                          try clear hfz28_0
                          try clear hfz28_1
                          try clear hfz28_2
                          try clear hfz28_3
                          try clear hfz33_0
                          try clear hfz33_1
                          try clear hfz33_2
                          try clear hfz33_3
                          try clear hfz34_0
                          try clear hfz34_1
                          try clear hfz34_2
                          try clear hfz34_3
                          try clear hfz43_0
                          try clear hfz43_1
                          try clear hfz43_2
                          try clear hfz43_3
                          try clear hfz50_0
                          try clear hfz50_1
                          try clear hfz50_2
                          try clear hfz50_3
                          try clear hfz52_0
                          try clear hfz52_1
                          try clear hfz52_2
                          try clear hfz52_3
                          try clear hfz56_0
                          try clear hfz56_1
                          try clear hfz56_2
                          try clear hfz56_3
                          try clear hfz58_0
                          try clear hfz58_1
                          try clear hfz58_2
                          try clear hfz58_3
                          try clear hfz59_0
                          try clear hfz59_1
                          try clear hfz59_2
                          try clear hfz59_3
                          try clear hfz63_0
                          try clear hfz63_1
                          try clear hfz63_2
                          try clear hfz63_3
                          try clear hfz65_0
                          try clear hfz65_1
                          try clear hfz65_2
                          try clear hfz65_3
                          try clear hfz66_0
                          try clear hfz66_1
                          try clear hfz66_2
                          try clear hfz66_3
                          try clear hfz69_0
                          try clear hfz69_1
                          try clear hfz69_2
                          try clear hfz69_3
                          try clear hfz71_0
                          try clear hfz71_1
                          try clear hfz71_2
                          try clear hfz71_3
                          try clear hfz72_0
                          try clear hfz72_1
                          try clear hfz72_2
                          try clear hfz72_3
                          try clear hfz83_0
                          try clear hfz83_1
                          try clear hfz83_2
                          try clear hfz83_3
                          try clear hfz85_0
                          try clear hfz85_1
                          try clear hfz85_2
                          try clear hfz85_3
                          try clear p2
                          try clear p6
                          try clear p64
                          obtain ⟨kq, x136_76, rfl, HA, HJ76, HO_20, BK260, BK279, BK292, BK299, HB⟩ := hcut
                          cases kq with
                          | zero => exact absurd HA.out (by simp [winnowerlaw06_ValueBack.j2])
                          | succ kj76 =>
                            have H := HA.out
                            clear HA
                            simp only [winnowerlaw06_ValueBack.j2] at H
                            by_cases c88 : x136_76 = true
                            · subst c88
                              have H1 : (some false) = some r := by rw [if_pos rfl] at H; exact H
                              clear H
                              have H := H1
                              clear H1
                              obtain rfl := Option.some.inj H
                              go_wp2
                              go_ret
                              exact ⟨by first | rfl | (simp [errW_none, errW_some] <;> rfl) | (refine congrArg (fun b_ : Bool => Ending.returned (Value.bool b_)) ?_; simp; done) | (simp [*, errW_none, errW_some] <;> rfl), by repeat (first | (with_reducible first | exact HB.out | apply below_alloc | apply pw_below_drewN | apply below_drew1 | refine below_set ?_ GE260.out | refine below_set ?_ GE279.out | refine below_set ?_ GE292.out | refine below_set ?_ GE299.out) | exact HB.out)⟩
                            · replace c88 := Bool.eq_false_iff.mpr c88
                              subst c88
                              have H1 : (if 0 ≤ t297 then (if t297 ≤ (l1.length : Int) then ((winnowerref01_Same.f t300 (l1.take (t297 : Int).toNat)).bind fun t305 => (if t305 = true then ((value_May.f t293 t294 t295 t296).bind fun t306 => (if t306 = true then (some (t293 == a2)) else (some false))) else (some false))) else (none)) else (none)) = some r := by rw [if_neg (show ¬ (false = true) by decide)] at H; exact H
                              clear H
                              have H := H1
                              clear H1
                              by_cases c89 : 0 ≤ t297
                              · rw [if_pos c89] at H
                                have c89b0 := eq_true c89
                                have c89b1 : decide (0 ≤ t297) = true := decide_eq_true c89
                                clear c89
                                by_cases c90 : t297 ≤ (l1.length : Int)
                                · rw [if_pos c90] at H
                                  have c90b0 := eq_true c90
                                  have c90b1 : decide (t297 ≤ (l1.length : Int)) = true := decide_eq_true c90
                                  clear c90
                                  replace H := Option.bind_eq_some_iff.mp H
                                  obtain ⟨t305, A910, H⟩ := H
                                  replace H : (if t305 = true then ((value_May.f t293 t294 t295 t296).bind fun t306 => (if t306 = true then (some (t293 == a2)) else (some false))) else (some false)) = some r := H
                                  have A91 := Aside0.mk A910
                                  clear A910
                                  by_cases c92 : t305 = true
                                  · subst c92
                                    have H1 : ((value_May.f t293 t294 t295 t296).bind fun t306 => (if t306 = true then (some (t293 == a2)) else (some false))) = some r := by rw [if_pos rfl] at H; exact H
                                    clear H
                                    have H := H1
                                    clear H1
                                    replace H := Option.bind_eq_some_iff.mp H
                                    obtain ⟨t306, A930, H⟩ := H
                                    replace H : (if t306 = true then (some (t293 == a2)) else (some false)) = some r := H
                                    have A93 := Aside0.mk A930
                                    clear A930
                                    by_cases c94 : t306 = true
                                    · subst c94
                                      have H1 : (some (t293 == a2)) = some r := by rw [if_pos rfl] at H; exact H
                                      clear H
                                      have H := H1
                                      clear H1
                                      obtain rfl := Option.some.inj H
                                      obtain ⟨i095, hi095, _, hsz95, _⟩ := info_parts info5
                                      obtain ⟨hcut95, hA95, hC95⟩ := print_take_of (P := Try.prog) (Value.int .u8) 0 24 5 .i64 Try.underlying24 hi095 hsz95 A1 c1 l1 t297 (of_decide_eq_true (by first | (with_reducible assumption) | assumption)) (of_decide_eq_true (by first | (with_reducible assumption) | assumption)) HC1.out
                                      have HR304 := Aside0.mk (Kd.C_of_reads (h1 := fun _ => rfl) (hA95 _ (Kd.reads_of_C HR1.out)))
                                      have HC304 := Aside0.mk hC95
                                      clear hA95 hC95 hi095 hsz95
                                      obtain ⟨Ao96, co96, eo96⟩ := Kd.R_slice HO_20.out
                                      subst eo96
                                      go_wp2_with (first | ((with_reducible refine gate_callee (f := 11) rfl ?_); refine goesL_ (some 141) rfl rfl Try.func11 (by kernel_rfl) rfl #[.slice Ao96 t300.length co96, .slice A1 (l1.take (t297 : Int).toNat).length c1] rfl (by (try simp only [List.map_toArray, List.map_cons, List.map_nil]); first | done | (rw [show (l1.take (t297 : Int).toNat).length = t297.toNat from (by rw [List.length_take]; have h_ : (t297 : Int) ≤ (l1.length : Int) := of_decide_eq_true (by first | (with_reducible assumption) | assumption); omega)] <;> rfl) | rfl | (simp only [List.length_drop, List.length_take]; rfl)) ?_; (with_reducible refine (winnowerref01_Same.calls _ _ t300 _ _ (l1.take (t297 : Int).toNat) true _ ?side1 ?side2 ?side3 ?side4 A91.out).mono ?_); (case side1 => repeat (first | exact (Kd.R_reads' HO_20.out).2.2 | (with_reducible refine Kd.C_alloc ?_ _) | (with_reducible refine Kd.C_drewN ?_ _) | (with_reducible refine Kd.C_drew ?_))); (case side2 => exact (Kd.R_reads' HO_20.out).2.1); (case side3 => repeat (first | exact (Kd.C_below HR304.out HB.out) | (with_reducible refine Kd.C_alloc ?_ _) | (with_reducible refine Kd.C_drewN ?_ _) | (with_reducible refine Kd.C_drew ?_))); (case side4 => exact HC304.out); rintro e w' ⟨rfl, ⟨nd, rfl⟩⟩; refine ⟨_, rfl, ?_⟩; have hnb97 := NB299_260.out; have hnc97 := NB260_299.out; have hnb98 := NB299_279.out; have hnc98 := NB279_299.out; have hnb99 := NB299_292.out; have hnc99 := NB292_299.out; have hcz100_0 : wc.cell? ⟨gb299, 0, none⟩ = some (.int .i64 t293) := (blk_cell BK299.out 0).trans rfl; have hcz100_1 : wc.cell? ⟨gb299, 1, none⟩ = some (.int .i64 t294) := (blk_cell BK299.out 1).trans rfl; have hcz100_2 : wc.cell? ⟨gb299, 2, none⟩ = some (.string t295) := (blk_cell BK299.out 2).trans rfl; have hcz100_3 : wc.cell? ⟨gb299, 3, none⟩ = some (.bool t296) := (blk_cell BK299.out 3).trans rfl; have hfz100_0 := blk_frozen BK299.out 0; have hfz100_1 := blk_frozen BK299.out 1; have hfz100_2 := blk_frozen BK299.out 2; have hfz100_3 := blk_frozen BK299.out 3) | (go_at_call 12; (with_reducible refine (value_May.calls t293 t294 t295 t296 true _ A93.out).mono ?_); rintro e w101 ⟨rfl, hb⟩; have n0_ := Aside0.mk (Kd.R_below (by (with_reducible repeat (first | apply Kd.R_alloc | apply Kd.R_drewN | apply Kd.R_drew)); exact HO_20.out) hb); have n1_ := Aside0.mk (blk_below (g := gb260) (o := .cells #[.int .i64 a0_0, .int .i64 a0_1, .string a0_2, .bool a0_3] 23 (0, 0)) (by (with_reducible repeat (first | refine blk_drewN ?_ _ | refine blk_drew ?_ | refine blk_alloc ?_ _)); exact BK260.out) hb); have n2_ := Aside0.mk (blk_below (g := gb279) (o := .cells #[.int .i64 t273, .int .i64 t274, .string t275, .bool t276] 23 (0, 0)) (by (with_reducible repeat (first | refine blk_drewN ?_ _ | refine blk_drew ?_ | refine blk_alloc ?_ _)); exact BK279.out) hb); have n3_ := Aside0.mk (blk_below (g := gb292) (o := .cells #[.int .i64 t286, .int .i64 t287, .string t288, .bool t289] 23 (0, 0)) (by (with_reducible repeat (first | refine blk_drewN ?_ _ | refine blk_drew ?_ | refine blk_alloc ?_ _)); exact BK292.out) hb); have n4_ := Aside0.mk (blk_below (g := gb299) (o := .cells #[.int .i64 t293, .int .i64 t294, .string t295, .bool t296] 23 (0, 0)) (by (with_reducible repeat (first | refine blk_drewN ?_ _ | refine blk_drew ?_ | refine blk_alloc ?_ _)); exact BK299.out) hb); have n5_ := Aside0.mk (below_step (by repeat (first | (with_reducible first | exact HB.out | apply below_alloc | apply pw_below_drewN | apply below_drew1 | refine below_set ?_ GE260.out | refine below_set ?_ GE279.out | refine below_set ?_ GE292.out | refine below_set ?_ GE299.out) | exact HB.out)) hb); clear HO_20; clear BK260; clear BK279; clear BK292; clear BK299; clear HB; have HO_20 := n0_; have BK260 := n1_; have BK279 := n2_; have BK292 := n3_; have BK299 := n4_; have HB := n5_; clear n0_ n1_ n2_ n3_ n4_ n5_; (try clear hb); (try clear hb2); (try clear hk); (try clear hi); have hcz102_0 : w101.cell? ⟨gb299, 0, none⟩ = some (.int .i64 t293) := (blk_cell BK299.out 0).trans rfl; have hcz102_1 : w101.cell? ⟨gb299, 1, none⟩ = some (.int .i64 t294) := (blk_cell BK299.out 1).trans rfl; have hcz102_2 : w101.cell? ⟨gb299, 2, none⟩ = some (.string t295) := (blk_cell BK299.out 2).trans rfl; have hcz102_3 : w101.cell? ⟨gb299, 3, none⟩ = some (.bool t296) := (blk_cell BK299.out 3).trans rfl; have hfz102_0 := blk_frozen BK299.out 0; have hfz102_1 := blk_frozen BK299.out 1; have hfz102_2 := blk_frozen BK299.out 2; have hfz102_3 := blk_frozen BK299.out 3))
                                      go_ret
                                      exact ⟨by first | rfl | (simp [errW_none, errW_some] <;> rfl) | (refine congrArg (fun b_ : Bool => Ending.returned (Value.bool b_)) ?_; simp; done) | (simp [*, errW_none, errW_some] <;> rfl), by repeat (first | (with_reducible first | exact HB.out | apply below_alloc | apply pw_below_drewN | apply below_drew1 | refine below_set ?_ GE260.out | refine below_set ?_ GE279.out | refine below_set ?_ GE292.out | refine below_set ?_ GE299.out) | exact HB.out)⟩
                                    · replace c94 := Bool.eq_false_iff.mpr c94
                                      subst c94
                                      have H1 : (some false) = some r := by rw [if_neg (show ¬ (false = true) by decide)] at H; exact H
                                      clear H
                                      have H := H1
                                      clear H1
                                      obtain rfl := Option.some.inj H
                                      obtain ⟨i0103, hi0103, _, hsz103, _⟩ := info_parts info5
                                      obtain ⟨hcut103, hA103, hC103⟩ := print_take_of (P := Try.prog) (Value.int .u8) 0 24 5 .i64 Try.underlying24 hi0103 hsz103 A1 c1 l1 t297 (of_decide_eq_true (by first | (with_reducible assumption) | assumption)) (of_decide_eq_true (by first | (with_reducible assumption) | assumption)) HC1.out
                                      have HR304 := Aside0.mk (Kd.C_of_reads (h1 := fun _ => rfl) (hA103 _ (Kd.reads_of_C HR1.out)))
                                      have HC304 := Aside0.mk hC103
                                      clear hA103 hC103 hi0103 hsz103
                                      obtain ⟨Ao104, co104, eo104⟩ := Kd.R_slice HO_20.out
                                      subst eo104
                                      go_wp2_with (first | ((with_reducible refine gate_callee (f := 11) rfl ?_); refine goesL_ (some 141) rfl rfl Try.func11 (by kernel_rfl) rfl #[.slice Ao104 t300.length co104, .slice A1 (l1.take (t297 : Int).toNat).length c1] rfl (by (try simp only [List.map_toArray, List.map_cons, List.map_nil]); first | done | (rw [show (l1.take (t297 : Int).toNat).length = t297.toNat from (by rw [List.length_take]; have h_ : (t297 : Int) ≤ (l1.length : Int) := of_decide_eq_true (by first | (with_reducible assumption) | assumption); omega)] <;> rfl) | rfl | (simp only [List.length_drop, List.length_take]; rfl)) ?_; (with_reducible refine (winnowerref01_Same.calls _ _ t300 _ _ (l1.take (t297 : Int).toNat) true _ ?side1 ?side2 ?side3 ?side4 A91.out).mono ?_); (case side1 => repeat (first | exact (Kd.R_reads' HO_20.out).2.2 | (with_reducible refine Kd.C_alloc ?_ _) | (with_reducible refine Kd.C_drewN ?_ _) | (with_reducible refine Kd.C_drew ?_))); (case side2 => exact (Kd.R_reads' HO_20.out).2.1); (case side3 => repeat (first | exact (Kd.C_below HR304.out HB.out) | (with_reducible refine Kd.C_alloc ?_ _) | (with_reducible refine Kd.C_drewN ?_ _) | (with_reducible refine Kd.C_drew ?_))); (case side4 => exact HC304.out); rintro e w' ⟨rfl, ⟨nd, rfl⟩⟩; refine ⟨_, rfl, ?_⟩; have hnb105 := NB299_260.out; have hnc105 := NB260_299.out; have hnb106 := NB299_279.out; have hnc106 := NB279_299.out; have hnb107 := NB299_292.out; have hnc107 := NB292_299.out; have hcz108_0 : wc.cell? ⟨gb299, 0, none⟩ = some (.int .i64 t293) := (blk_cell BK299.out 0).trans rfl; have hcz108_1 : wc.cell? ⟨gb299, 1, none⟩ = some (.int .i64 t294) := (blk_cell BK299.out 1).trans rfl; have hcz108_2 : wc.cell? ⟨gb299, 2, none⟩ = some (.string t295) := (blk_cell BK299.out 2).trans rfl; have hcz108_3 : wc.cell? ⟨gb299, 3, none⟩ = some (.bool t296) := (blk_cell BK299.out 3).trans rfl; have hfz108_0 := blk_frozen BK299.out 0; have hfz108_1 := blk_frozen BK299.out 1; have hfz108_2 := blk_frozen BK299.out 2; have hfz108_3 := blk_frozen BK299.out 3) | (go_at_call 12; (with_reducible refine (value_May.calls t293 t294 t295 t296 false _ A93.out).mono ?_); rintro e w109 ⟨rfl, hb⟩; have n0_ := Aside0.mk (Kd.R_below (by (with_reducible repeat (first | apply Kd.R_alloc | apply Kd.R_drewN | apply Kd.R_drew)); exact HO_20.out) hb); have n1_ := Aside0.mk (blk_below (g := gb260) (o := .cells #[.int .i64 a0_0, .int .i64 a0_1, .string a0_2, .bool a0_3] 23 (0, 0)) (by (with_reducible repeat (first | refine blk_drewN ?_ _ | refine blk_drew ?_ | refine blk_alloc ?_ _)); exact BK260.out) hb); have n2_ := Aside0.mk (blk_below (g := gb279) (o := .cells #[.int .i64 t273, .int .i64 t274, .string t275, .bool t276] 23 (0, 0)) (by (with_reducible repeat (first | refine blk_drewN ?_ _ | refine blk_drew ?_ | refine blk_alloc ?_ _)); exact BK279.out) hb); have n3_ := Aside0.mk (blk_below (g := gb292) (o := .cells #[.int .i64 t286, .int .i64 t287, .string t288, .bool t289] 23 (0, 0)) (by (with_reducible repeat (first | refine blk_drewN ?_ _ | refine blk_drew ?_ | refine blk_alloc ?_ _)); exact BK292.out) hb); have n4_ := Aside0.mk (blk_below (g := gb299) (o := .cells #[.int .i64 t293, .int .i64 t294, .string t295, .bool t296] 23 (0, 0)) (by (with_reducible repeat (first | refine blk_drewN ?_ _ | refine blk_drew ?_ | refine blk_alloc ?_ _)); exact BK299.out) hb); have n5_ := Aside0.mk (below_step (by repeat (first | (with_reducible first | exact HB.out | apply below_alloc | apply pw_below_drewN | apply below_drew1 | refine below_set ?_ GE260.out | refine below_set ?_ GE279.out | refine below_set ?_ GE292.out | refine below_set ?_ GE299.out) | exact HB.out)) hb); clear HO_20; clear BK260; clear BK279; clear BK292; clear BK299; clear HB; have HO_20 := n0_; have BK260 := n1_; have BK279 := n2_; have BK292 := n3_; have BK299 := n4_; have HB := n5_; clear n0_ n1_ n2_ n3_ n4_ n5_; (try clear hb); (try clear hb2); (try clear hk); (try clear hi)))
                                      go_ret
                                      exact ⟨by first | rfl | (simp [errW_none, errW_some] <;> rfl) | (refine congrArg (fun b_ : Bool => Ending.returned (Value.bool b_)) ?_; simp; done) | (simp [*, errW_none, errW_some] <;> rfl), by repeat (first | (with_reducible first | exact HB.out | apply below_alloc | apply pw_below_drewN | apply below_drew1 | refine below_set ?_ GE260.out | refine below_set ?_ GE279.out | refine below_set ?_ GE292.out | refine below_set ?_ GE299.out) | exact HB.out)⟩
                                  · replace c92 := Bool.eq_false_iff.mpr c92
                                    subst c92
                                    have H1 : (some false) = some r := by rw [if_neg (show ¬ (false = true) by decide)] at H; exact H
                                    clear H
                                    have H := H1
                                    clear H1
                                    obtain rfl := Option.some.inj H
                                    obtain ⟨i0110, hi0110, _, hsz110, _⟩ := info_parts info5
                                    obtain ⟨hcut110, hA110, hC110⟩ := print_take_of (P := Try.prog) (Value.int .u8) 0 24 5 .i64 Try.underlying24 hi0110 hsz110 A1 c1 l1 t297 (of_decide_eq_true (by first | (with_reducible assumption) | assumption)) (of_decide_eq_true (by first | (with_reducible assumption) | assumption)) HC1.out
                                    have HR304 := Aside0.mk (Kd.C_of_reads (h1 := fun _ => rfl) (hA110 _ (Kd.reads_of_C HR1.out)))
                                    have HC304 := Aside0.mk hC110
                                    clear hA110 hC110 hi0110 hsz110
                                    obtain ⟨Ao111, co111, eo111⟩ := Kd.R_slice HO_20.out
                                    subst eo111
                                    go_wp2_with (first | ((with_reducible refine gate_callee (f := 11) rfl ?_); refine goesL_ (some 141) rfl rfl Try.func11 (by kernel_rfl) rfl #[.slice Ao111 t300.length co111, .slice A1 (l1.take (t297 : Int).toNat).length c1] rfl (by (try simp only [List.map_toArray, List.map_cons, List.map_nil]); first | done | (rw [show (l1.take (t297 : Int).toNat).length = t297.toNat from (by rw [List.length_take]; have h_ : (t297 : Int) ≤ (l1.length : Int) := of_decide_eq_true (by first | (with_reducible assumption) | assumption); omega)] <;> rfl) | rfl | (simp only [List.length_drop, List.length_take]; rfl)) ?_; (with_reducible refine (winnowerref01_Same.calls _ _ t300 _ _ (l1.take (t297 : Int).toNat) false _ ?side1 ?side2 ?side3 ?side4 A91.out).mono ?_); (case side1 => repeat (first | exact (Kd.R_reads' HO_20.out).2.2 | (with_reducible refine Kd.C_alloc ?_ _) | (with_reducible refine Kd.C_drewN ?_ _) | (with_reducible refine Kd.C_drew ?_))); (case side2 => exact (Kd.R_reads' HO_20.out).2.1); (case side3 => repeat (first | exact (Kd.C_below HR304.out HB.out) | (with_reducible refine Kd.C_alloc ?_ _) | (with_reducible refine Kd.C_drewN ?_ _) | (with_reducible refine Kd.C_drew ?_))); (case side4 => exact HC304.out); rintro e w' ⟨rfl, ⟨nd, rfl⟩⟩; refine ⟨_, rfl, ?_⟩))
                                    go_ret
                                    exact ⟨by first | rfl | (simp [errW_none, errW_some] <;> rfl) | (refine congrArg (fun b_ : Bool => Ending.returned (Value.bool b_)) ?_; simp; done) | (simp [*, errW_none, errW_some] <;> rfl), by repeat (first | (with_reducible first | exact HB.out | apply below_alloc | apply pw_below_drewN | apply below_drew1 | refine below_set ?_ GE260.out | refine below_set ?_ GE279.out | refine below_set ?_ GE292.out | refine below_set ?_ GE299.out) | exact HB.out)⟩
                                · rw [if_neg c90] at H
                                  exact absurd H (by simp)
                              · rw [if_neg c89] at H
                                exact absurd H (by simp)
                      · rw [if_neg c75] at H
                        have c75b0 : (t298 == 0) = false := beq_eq_false_iff_ne.mpr c75
                        have c75b1 : (t298 != 0) = true := bne_iff_ne.mpr c75
                        by_cases c112 : (t293 == 0 && (t294 == 0 && (t295.toList == ([] : List UInt8) && (!t296)))) = true
                        · rw [if_pos c112] at H
                          have c112b0 : (t293 == 0 && (t294 == 0 && (t295.toList == ([] : List UInt8) && (!t296)))) = true := c112
                          (try (have c112p : ((t293 = 0 ∧ (t294 = 0 ∧ (t295.toList = ([] : List UInt8) ∧ t296 = false)))) = True := by simpa using c112b0))
                          (try (have c112b1 : decide (t293 = 0 && (t294 == 0 && (t295.toList == ([] : List UInt8) && (!t296)))) = true := by simpa using c112))
                          (try (have c112b2 : (t293 == 0 && (t294 == 0 && (t295.toList == ([] : List UInt8) && (!t296)))) = true := by simpa using c112))
                          clear c112
                          obtain rfl := Option.some.inj H
                          go_wp2_with (first | ((with_reducible refine gate_callee (f := 16) rfl ?_); refine goesL_ (some 111) rfl rfl Try.func16 (by kernel_rfl) rfl #[.slice A1 l1.length c1, .int .i64 a2] rfl (by (try simp only [List.map_toArray, List.map_cons, List.map_nil]); first | done | rfl | (simp only [List.length_drop, List.length_take]; rfl)) ?_; (with_reducible refine (value_Get.calls _ _ l1 a2 t293 t294 t295 t296 t297 t298 _ ?side1 ?side2 A74.out).mono ?_); (case side1 => repeat (first | exact (Kd.C_below HR1.out HB.out) | (with_reducible refine Kd.C_alloc ?_ _) | (with_reducible refine Kd.C_drewN ?_ _) | (with_reducible refine Kd.C_drew ?_))); (case side2 => exact HC1.out); rintro e w113 ⟨rfl, hb⟩; refine ⟨_, rfl, ?_⟩; have n0_ := Aside0.mk (blk_below (g := gb260) (o := .cells #[.int .i64 a0_0, .int .i64 a0_1, .string a0_2, .bool a0_3] 23 (0, 0)) (by (with_reducible repeat (first | refine blk_drewN ?_ _ | refine blk_drew ?_ | refine blk_alloc ?_ _)); exact BK260.out) hb); have n1_ := Aside0.mk (blk_below (g := gb279) (o := .cells #[.int .i64 t273, .int .i64 t274, .string t275, .bool t276] 23 (0, 0)) (by (with_reducible repeat (first | refine blk_drewN ?_ _ | refine blk_drew ?_ | refine blk_alloc ?_ _)); exact BK279.out) hb); have n2_ := Aside0.mk (blk_below (g := gb292) (o := .cells #[.int .i64 t286, .int .i64 t287, .string t288, .bool t289] 23 (0, 0)) (by (with_reducible repeat (first | refine blk_drewN ?_ _ | refine blk_drew ?_ | refine blk_alloc ?_ _)); exact BK292.out) hb); have n3_ := Aside0.mk (below_step (by repeat (first | (with_reducible first | exact HB.out | apply below_alloc | apply pw_below_drewN | apply below_drew1 | refine below_set ?_ GE260.out | refine below_set ?_ GE279.out | refine below_set ?_ GE292.out) | exact HB.out)) hb); clear BK260; clear BK279; clear BK292; clear HB; have BK260 := n0_; have BK279 := n1_; have BK292 := n2_; have HB := n3_; clear n0_ n1_ n2_ n3_; (try clear hb); (try clear hb2); (try clear hk); (try clear hi)) | ((with_reducible refine gate_dst (N := 17) rfl ?_); (try (refine gate_guard (by rfl) ?_; dsimp only)); refine box_event ?hg (N := 17) ?hd (cs := #[.int .i64 0, .int .i64 0, .string (⟨#[]⟩ : ByteArray), .bool false]) (t := 23) ?hr ?_; (case hd => rfl); (case hg => rfl); (case hr => first | (go_simp; done) | (go_simp; rfl)); intro gb299 hg w114 hbox hb; have n0_ := Aside0.mk (blk_below (g := gb260) (o := .cells #[.int .i64 a0_0, .int .i64 a0_1, .string a0_2, .bool a0_3] 23 (0, 0)) (by (with_reducible repeat (first | refine blk_drewN ?_ _ | refine blk_drew ?_ | refine blk_alloc ?_ _)); exact BK260.out) hb); have n1_ := Aside0.mk (blk_below (g := gb279) (o := .cells #[.int .i64 t273, .int .i64 t274, .string t275, .bool t276] 23 (0, 0)) (by (with_reducible repeat (first | refine blk_drewN ?_ _ | refine blk_drew ?_ | refine blk_alloc ?_ _)); exact BK279.out) hb); have n2_ := Aside0.mk (blk_below (g := gb292) (o := .cells #[.int .i64 t286, .int .i64 t287, .string t288, .bool t289] 23 (0, 0)) (by (with_reducible repeat (first | refine blk_drewN ?_ _ | refine blk_drew ?_ | refine blk_alloc ?_ _)); exact BK292.out) hb); have n3_ := Aside0.mk (below_step (by repeat (first | (with_reducible first | exact HB.out | apply below_alloc | apply pw_below_drewN | apply below_drew1 | refine below_set ?_ GE260.out | refine below_set ?_ GE279.out | refine below_set ?_ GE292.out) | exact HB.out)) hb); have n4_ := Aside0.mk (hbox); have n5_ := Aside0.mk ((by rw [hg]; exact (below_size (by repeat (first | (with_reducible first | exact HB.out | apply below_alloc | apply pw_below_drewN | apply below_drew1 | refine below_set ?_ GE260.out | refine below_set ?_ GE279.out | refine below_set ?_ GE292.out) | exact HB.out))) : w.heap.size ≤ gb299)); have n6_ := Aside0.mk ((by rw [hg]; exact (below_size (by repeat (first | (with_reducible first | exact HB.out | apply below_alloc | apply pw_below_drewN | apply below_drew1 | refine below_set ?_ GE260.out | refine below_set ?_ GE279.out | refine below_set ?_ GE292.out) | exact HB.out))) : w.heap.size ≤ gb299)); have n7_ := Aside0.mk ((by rw [hg]; exact Nat.ne_of_lt (blk_lt (g := gb260) (o := .cells #[.int .i64 a0_0, .int .i64 a0_1, .string a0_2, .bool a0_3] 23 (0, 0)) (by (with_reducible repeat (first | refine blk_drewN ?_ _ | refine blk_drew ?_ | refine blk_alloc ?_ _)); exact BK260.out)) : gb260 ≠ gb299)); have n8_ := Aside0.mk ((by rw [hg]; exact Nat.ne_of_gt (blk_lt (g := gb260) (o := .cells #[.int .i64 a0_0, .int .i64 a0_1, .string a0_2, .bool a0_3] 23 (0, 0)) (by (with_reducible repeat (first | refine blk_drewN ?_ _ | refine blk_drew ?_ | refine blk_alloc ?_ _)); exact BK260.out)) : gb299 ≠ gb260)); have n9_ := Aside0.mk ((by rw [hg]; exact Nat.ne_of_lt (blk_lt (g := gb279) (o := .cells #[.int .i64 t273, .int .i64 t274, .string t275, .bool t276] 23 (0, 0)) (by (with_reducible repeat (first | refine blk_drewN ?_ _ | refine blk_drew ?_ | refine blk_alloc ?_ _)); exact BK279.out)) : gb279 ≠ gb299)); have n10_ := Aside0.mk ((by rw [hg]; exact Nat.ne_of_gt (blk_lt (g := gb279) (o := .cells #[.int .i64 t273, .int .i64 t274, .string t275, .bool t276] 23 (0, 0)) (by (with_reducible repeat (first | refine blk_drewN ?_ _ | refine blk_drew ?_ | refine blk_alloc ?_ _)); exact BK279.out)) : gb299 ≠ gb279)); have n11_ := Aside0.mk ((by rw [hg]; exact Nat.ne_of_lt (blk_lt (g := gb292) (o := .cells #[.int .i64 t286, .int .i64 t287, .string t288, .bool t289] 23 (0, 0)) (by (with_reducible repeat (first | refine blk_drewN ?_ _ | refine blk_drew ?_ | refine blk_alloc ?_ _)); exact BK292.out)) : gb292 ≠ gb299)); have n12_ := Aside0.mk ((by rw [hg]; exact Nat.ne_of_gt (blk_lt (g := gb292) (o := .cells #[.int .i64 t286, .int .i64 t287, .string t288, .bool t289] 23 (0, 0)) (by (with_reducible repeat (first | refine blk_drewN ?_ _ | refine blk_drew ?_ | refine blk_alloc ?_ _)); exact BK292.out)) : gb299 ≠ gb292)); clear BK260; clear BK279; clear BK292; clear HB; have BK260 := n0_; have BK279 := n1_; have BK292 := n2_; have HB := n3_; have BK299 := n4_; have GW299 := n5_; have GE299 := n6_; have NB260_299 := n7_; have NB299_260 := n8_; have NB279_299 := n9_; have NB299_279 := n10_; have NB292_299 := n11_; have NB299_292 := n12_; clear n0_ n1_ n2_ n3_ n4_ n5_ n6_ n7_ n8_ n9_ n10_ n11_ n12_; clear hb hbox hg; have hnb115 := NB299_260.out; have hnc115 := NB260_299.out; have hnb116 := NB299_279.out; have hnc116 := NB279_299.out; have hnb117 := NB299_292.out; have hnc117 := NB292_299.out; have hcz118_0 : w114.cell? ⟨gb299, 0, none⟩ = some (.int .i64 0) := (blk_cell BK299.out 0).trans rfl; have hcz118_1 : w114.cell? ⟨gb299, 1, none⟩ = some (.int .i64 0) := (blk_cell BK299.out 1).trans rfl; have hcz118_2 : w114.cell? ⟨gb299, 2, none⟩ = some (.string (⟨#[]⟩ : ByteArray)) := (blk_cell BK299.out 2).trans rfl; have hcz118_3 : w114.cell? ⟨gb299, 3, none⟩ = some (.bool false) := (blk_cell BK299.out 3).trans rfl; have hfz118_0 := blk_frozen BK299.out 0; have hfz118_1 := blk_frozen BK299.out 1; have hfz118_2 := blk_frozen BK299.out 2; have hfz118_3 := blk_frozen BK299.out 3))
                          go_ret
                          exact ⟨by first | rfl | (simp [errW_none, errW_some] <;> rfl) | (refine congrArg (fun b_ : Bool => Ending.returned (Value.bool b_)) ?_; simp; done) | (simp [*, errW_none, errW_some] <;> rfl), by repeat (first | (with_reducible first | exact HB.out | apply below_alloc | apply pw_below_drewN | apply below_drew1 | refine below_set ?_ GE260.out | refine below_set ?_ GE279.out | refine below_set ?_ GE292.out | refine below_set ?_ GE299.out) | exact HB.out)⟩
                        · rw [if_neg c112] at H
                          have c112b0 : (t293 == 0 && (t294 == 0 && (t295.toList == ([] : List UInt8) && (!t296)))) = false := by simpa using c112
                          (try (have c112p : ((t293 = 0 ∧ (t294 = 0 ∧ (t295.toList = ([] : List UInt8) ∧ t296 = false)))) = False := by simpa using c112b0))
                          (try (have c112b1 : decide (t293 = 0 && (t294 == 0 && (t295.toList == ([] : List UInt8) && (!t296)))) = false := by simpa using c112))
                          (try (have c112b2 : (t293 == 0 && (t294 == 0 && (t295.toList == ([] : List UInt8) && (!t296)))) = false := by simpa using c112))
                          (try (have c112b3 : ¬ (t293 = 0 && (t294 == 0 && (t295.toList == ([] : List UInt8) && (!t296)))) := by simpa using c112))
                          clear c112
                          obtain rfl := Option.some.inj H
                          go_wp2_with (first | ((with_reducible refine gate_callee (f := 16) rfl ?_); refine goesL_ (some 111) rfl rfl Try.func16 (by kernel_rfl) rfl #[.slice A1 l1.length c1, .int .i64 a2] rfl (by (try simp only [List.map_toArray, List.map_cons, List.map_nil]); first | done | rfl | (simp only [List.length_drop, List.length_take]; rfl)) ?_; (with_reducible refine (value_Get.calls _ _ l1 a2 t293 t294 t295 t296 t297 t298 _ ?side1 ?side2 A74.out).mono ?_); (case side1 => repeat (first | exact (Kd.C_below HR1.out HB.out) | (with_reducible refine Kd.C_alloc ?_ _) | (with_reducible refine Kd.C_drewN ?_ _) | (with_reducible refine Kd.C_drew ?_))); (case side2 => exact HC1.out); rintro e w119 ⟨rfl, hb⟩; refine ⟨_, rfl, ?_⟩; have n0_ := Aside0.mk (blk_below (g := gb260) (o := .cells #[.int .i64 a0_0, .int .i64 a0_1, .string a0_2, .bool a0_3] 23 (0, 0)) (by (with_reducible repeat (first | refine blk_drewN ?_ _ | refine blk_drew ?_ | refine blk_alloc ?_ _)); exact BK260.out) hb); have n1_ := Aside0.mk (blk_below (g := gb279) (o := .cells #[.int .i64 t273, .int .i64 t274, .string t275, .bool t276] 23 (0, 0)) (by (with_reducible repeat (first | refine blk_drewN ?_ _ | refine blk_drew ?_ | refine blk_alloc ?_ _)); exact BK279.out) hb); have n2_ := Aside0.mk (blk_below (g := gb292) (o := .cells #[.int .i64 t286, .int .i64 t287, .string t288, .bool t289] 23 (0, 0)) (by (with_reducible repeat (first | refine blk_drewN ?_ _ | refine blk_drew ?_ | refine blk_alloc ?_ _)); exact BK292.out) hb); have n3_ := Aside0.mk (below_step (by repeat (first | (with_reducible first | exact HB.out | apply below_alloc | apply pw_below_drewN | apply below_drew1 | refine below_set ?_ GE260.out | refine below_set ?_ GE279.out | refine below_set ?_ GE292.out) | exact HB.out)) hb); clear BK260; clear BK279; clear BK292; clear HB; have BK260 := n0_; have BK279 := n1_; have BK292 := n2_; have HB := n3_; clear n0_ n1_ n2_ n3_; (try clear hb); (try clear hb2); (try clear hk); (try clear hi)) | ((with_reducible refine gate_dst (N := 17) rfl ?_); (try (refine gate_guard (by rfl) ?_; dsimp only)); refine box_event ?hg (N := 17) ?hd (cs := #[.int .i64 0, .int .i64 0, .string (⟨#[]⟩ : ByteArray), .bool false]) (t := 23) ?hr ?_; (case hd => rfl); (case hg => rfl); (case hr => first | (go_simp; done) | (go_simp; rfl)); intro gb299 hg w120 hbox hb; have n0_ := Aside0.mk (blk_below (g := gb260) (o := .cells #[.int .i64 a0_0, .int .i64 a0_1, .string a0_2, .bool a0_3] 23 (0, 0)) (by (with_reducible repeat (first | refine blk_drewN ?_ _ | refine blk_drew ?_ | refine blk_alloc ?_ _)); exact BK260.out) hb); have n1_ := Aside0.mk (blk_below (g := gb279) (o := .cells #[.int .i64 t273, .int .i64 t274, .string t275, .bool t276] 23 (0, 0)) (by (with_reducible repeat (first | refine blk_drewN ?_ _ | refine blk_drew ?_ | refine blk_alloc ?_ _)); exact BK279.out) hb); have n2_ := Aside0.mk (blk_below (g := gb292) (o := .cells #[.int .i64 t286, .int .i64 t287, .string t288, .bool t289] 23 (0, 0)) (by (with_reducible repeat (first | refine blk_drewN ?_ _ | refine blk_drew ?_ | refine blk_alloc ?_ _)); exact BK292.out) hb); have n3_ := Aside0.mk (below_step (by repeat (first | (with_reducible first | exact HB.out | apply below_alloc | apply pw_below_drewN | apply below_drew1 | refine below_set ?_ GE260.out | refine below_set ?_ GE279.out | refine below_set ?_ GE292.out) | exact HB.out)) hb); have n4_ := Aside0.mk (hbox); have n5_ := Aside0.mk ((by rw [hg]; exact (below_size (by repeat (first | (with_reducible first | exact HB.out | apply below_alloc | apply pw_below_drewN | apply below_drew1 | refine below_set ?_ GE260.out | refine below_set ?_ GE279.out | refine below_set ?_ GE292.out) | exact HB.out))) : w.heap.size ≤ gb299)); have n6_ := Aside0.mk ((by rw [hg]; exact (below_size (by repeat (first | (with_reducible first | exact HB.out | apply below_alloc | apply pw_below_drewN | apply below_drew1 | refine below_set ?_ GE260.out | refine below_set ?_ GE279.out | refine below_set ?_ GE292.out) | exact HB.out))) : w.heap.size ≤ gb299)); have n7_ := Aside0.mk ((by rw [hg]; exact Nat.ne_of_lt (blk_lt (g := gb260) (o := .cells #[.int .i64 a0_0, .int .i64 a0_1, .string a0_2, .bool a0_3] 23 (0, 0)) (by (with_reducible repeat (first | refine blk_drewN ?_ _ | refine blk_drew ?_ | refine blk_alloc ?_ _)); exact BK260.out)) : gb260 ≠ gb299)); have n8_ := Aside0.mk ((by rw [hg]; exact Nat.ne_of_gt (blk_lt (g := gb260) (o := .cells #[.int .i64 a0_0, .int .i64 a0_1, .string a0_2, .bool a0_3] 23 (0, 0)) (by (with_reducible repeat (first | refine blk_drewN ?_ _ | refine blk_drew ?_ | refine blk_alloc ?_ _)); exact BK260.out)) : gb299 ≠ gb260)); have n9_ := Aside0.mk ((by rw [hg]; exact Nat.ne_of_lt (blk_lt (g := gb279) (o := .cells #[.int .i64 t273, .int .i64 t274, .string t275, .bool t276] 23 (0, 0)) (by (with_reducible repeat (first | refine blk_drewN ?_ _ | refine blk_drew ?_ | refine blk_alloc ?_ _)); exact BK279.out)) : gb279 ≠ gb299)); have n10_ := Aside0.mk ((by rw [hg]; exact Nat.ne_of_gt (blk_lt (g := gb279) (o := .cells #[.int .i64 t273, .int .i64 t274, .string t275, .bool t276] 23 (0, 0)) (by (with_reducible repeat (first | refine blk_drewN ?_ _ | refine blk_drew ?_ | refine blk_alloc ?_ _)); exact BK279.out)) : gb299 ≠ gb279)); have n11_ := Aside0.mk ((by rw [hg]; exact Nat.ne_of_lt (blk_lt (g := gb292) (o := .cells #[.int .i64 t286, .int .i64 t287, .string t288, .bool t289] 23 (0, 0)) (by (with_reducible repeat (first | refine blk_drewN ?_ _ | refine blk_drew ?_ | refine blk_alloc ?_ _)); exact BK292.out)) : gb292 ≠ gb299)); have n12_ := Aside0.mk ((by rw [hg]; exact Nat.ne_of_gt (blk_lt (g := gb292) (o := .cells #[.int .i64 t286, .int .i64 t287, .string t288, .bool t289] 23 (0, 0)) (by (with_reducible repeat (first | refine blk_drewN ?_ _ | refine blk_drew ?_ | refine blk_alloc ?_ _)); exact BK292.out)) : gb299 ≠ gb292)); clear BK260; clear BK279; clear BK292; clear HB; have BK260 := n0_; have BK279 := n1_; have BK292 := n2_; have HB := n3_; have BK299 := n4_; have GW299 := n5_; have GE299 := n6_; have NB260_299 := n7_; have NB299_260 := n8_; have NB279_299 := n9_; have NB299_279 := n10_; have NB292_299 := n11_; have NB299_292 := n12_; clear n0_ n1_ n2_ n3_ n4_ n5_ n6_ n7_ n8_ n9_ n10_ n11_ n12_; clear hb hbox hg; have hnb121 := NB299_260.out; have hnc121 := NB260_299.out; have hnb122 := NB299_279.out; have hnc122 := NB279_299.out; have hnb123 := NB299_292.out; have hnc123 := NB292_299.out; have hcz124_0 : w120.cell? ⟨gb299, 0, none⟩ = some (.int .i64 0) := (blk_cell BK299.out 0).trans rfl; have hcz124_1 : w120.cell? ⟨gb299, 1, none⟩ = some (.int .i64 0) := (blk_cell BK299.out 1).trans rfl; have hcz124_2 : w120.cell? ⟨gb299, 2, none⟩ = some (.string (⟨#[]⟩ : ByteArray)) := (blk_cell BK299.out 2).trans rfl; have hcz124_3 : w120.cell? ⟨gb299, 3, none⟩ = some (.bool false) := (blk_cell BK299.out 3).trans rfl; have hfz124_0 := blk_frozen BK299.out 0; have hfz124_1 := blk_frozen BK299.out 1; have hfz124_2 := blk_frozen BK299.out 2; have hfz124_3 := blk_frozen BK299.out 3))
                          go_ret
                          exact ⟨by first | rfl | (simp [errW_none, errW_some] <;> rfl) | (refine congrArg (fun b_ : Bool => Ending.returned (Value.bool b_)) ?_; simp; done) | (simp [*, errW_none, errW_some] <;> rfl), by repeat (first | (with_reducible first | exact HB.out | apply below_alloc | apply pw_below_drewN | apply below_drew1 | refine below_set ?_ GE260.out | refine below_set ?_ GE279.out | refine below_set ?_ GE292.out | refine below_set ?_ GE299.out) | exact HB.out)⟩
              · rw [if_neg c18] at H
                exact absurd H (by simp)
            · rw [if_neg c16] at H
              exact absurd H (by simp)
          · rw [if_neg c15] at H
            exact absurd H (by simp)
        · replace c14 := Bool.eq_false_iff.mpr c14
          subst c14
          have H1 : (if t265 = 1 then (some ((t262.length : Int) == 0)) else (some false)) = some r := by rw [if_neg (show ¬ (false = true) by decide)] at H; exact H
          clear H
          have H := H1
          clear H1
          by_cases c125 : t265 = 1
          · rw [if_pos c125] at H
            have c125b0 : (t265 == 1) = true := beq_iff_eq.mpr c125
            have c125b1 : (t265 != 1) = false := bne_eq_false_iff_eq.mpr c125
            clear c125
            obtain rfl := Option.some.inj H
            have hcz126_0 : wc.cell? ⟨gb260, 0, none⟩ = some (.int .i64 a0_0) := (blk_cell BK260.out 0).trans rfl
            have hcz126_1 : wc.cell? ⟨gb260, 1, none⟩ = some (.int .i64 a0_1) := (blk_cell BK260.out 1).trans rfl
            have hcz126_2 : wc.cell? ⟨gb260, 2, none⟩ = some (.string a0_2) := (blk_cell BK260.out 2).trans rfl
            have hcz126_3 : wc.cell? ⟨gb260, 3, none⟩ = some (.bool a0_3) := (blk_cell BK260.out 3).trans rfl
            have hfz126_0 := blk_frozen BK260.out 0
            have hfz126_1 := blk_frozen BK260.out 1
            have hfz126_2 := blk_frozen BK260.out 2
            have hfz126_3 := blk_frozen BK260.out 3
            go_wp2_with (first | ((with_reducible refine gate_callee (f := 9) rfl ?_); refine goesL_ (some 40) rfl rfl Try.func9 (by kernel_rfl) rfl #[.slice none 0 0, .agg #[.int .i64 a0_0, .int .i64 a0_1, .string a0_2, .bool a0_3]] rfl (by (try simp only [List.map_toArray, List.map_cons, List.map_nil]); first | done | rfl | (simp only [List.length_drop, List.length_take]; rfl)) ?_; (refine (value_Put.calls (fun k_ => some k_ = (.slice none 0 0 : Value).ownBlock) (.slice none 0 0) ([] : List Int) a0_0 a0_1 a0_2 a0_3 t262 t265 w _ ?side1 ?side2 A12.out).mono ?_); (case side1 => repeat (first | (with_reducible first | exact HB.out | apply below_alloc | apply pw_below_drewN | apply below_drew1 | refine below_set ?_ GE260.out) | exact HB.out)); (case side2 => exact Kd.R_nil _ _ _ _ _); rintro e w127 ⟨v263, rfl, ho0, hb, hkp⟩; refine ⟨_, rfl, ?_⟩; have n0_ := Aside0.mk (blk_kept (by (with_reducible repeat (first | refine blk_drewN ?_ _ | refine blk_drew ?_ | refine blk_alloc ?_ _)); exact BK260.out) hkp (fun hs_ => (fun e_ => by simp [Value.ownBlock] at e_) hs_)); have n1_ := Aside0.mk (Kd.R_mono (ok' := fun k_ => True) ho0 (fun k_ hk_ => trivial)); have n2_ := Aside0.mk (hb); clear BK260; clear HB; have BK260 := n0_; have HO264 := n1_; have HB := n2_; clear n0_ n1_ n2_; (try clear hb); (try clear hkp); (try clear ho0); have hcz128_0 : w127.cell? ⟨gb260, 0, none⟩ = some (.int .i64 a0_0) := (blk_cell BK260.out 0).trans rfl; have hcz128_1 : w127.cell? ⟨gb260, 1, none⟩ = some (.int .i64 a0_1) := (blk_cell BK260.out 1).trans rfl; have hcz128_2 : w127.cell? ⟨gb260, 2, none⟩ = some (.string a0_2) := (blk_cell BK260.out 2).trans rfl; have hcz128_3 : w127.cell? ⟨gb260, 3, none⟩ = some (.bool a0_3) := (blk_cell BK260.out 3).trans rfl; have hfz128_0 := blk_frozen BK260.out 0; have hfz128_1 := blk_frozen BK260.out 1; have hfz128_2 := blk_frozen BK260.out 2; have hfz128_3 := blk_frozen BK260.out 3) | ((with_reducible refine gate_callee (f := 12) rfl ?_); refine goesL_ (some 44) rfl rfl Try.func12 (by kernel_rfl) rfl #[.agg #[.int .i64 a0_0, .int .i64 a0_1, .string a0_2, .bool a0_3]] rfl (by (try simp only [List.map_toArray, List.map_cons, List.map_nil]); first | done | rfl | (simp only [List.length_drop, List.length_take]; rfl)) ?_; (with_reducible refine (value_May.calls a0_0 a0_1 a0_2 a0_3 false _ A13.out).mono ?_); rintro e w129 ⟨rfl, hb⟩; refine ⟨_, rfl, ?_⟩; have n0_ := Aside0.mk (Kd.R_below (by (with_reducible repeat (first | apply Kd.R_alloc | apply Kd.R_drewN | apply Kd.R_drew)); exact HO264.out) hb); have n1_ := Aside0.mk (blk_below (g := gb260) (o := .cells #[.int .i64 a0_0, .int .i64 a0_1, .string a0_2, .bool a0_3] 23 (0, 0)) (by (with_reducible repeat (first | refine blk_drewN ?_ _ | refine blk_drew ?_ | refine blk_alloc ?_ _)); exact BK260.out) hb); have n2_ := Aside0.mk (below_step (by repeat (first | (with_reducible first | exact HB.out | apply below_alloc | apply pw_below_drewN | apply below_drew1 | refine below_set ?_ GE260.out) | exact HB.out)) hb); clear HO264; clear BK260; clear HB; have HO264 := n0_; have BK260 := n1_; have HB := n2_; clear n0_ n1_ n2_; (try clear hb); (try clear hb2); (try clear hk); (try clear hi); obtain ⟨Ao130, co130, eo130⟩ := Kd.R_slice HO264.out; subst eo130))
            go_ret
            exact ⟨by first | rfl | (simp [errW_none, errW_some] <;> rfl) | (refine congrArg (fun b_ : Bool => Ending.returned (Value.bool b_)) ?_; simp; done) | (simp [*, errW_none, errW_some] <;> rfl), by repeat (first | (with_reducible first | exact HB.out | apply below_alloc | apply pw_below_drewN | apply below_drew1 | refine below_set ?_ GE260.out) | exact HB.out)⟩
          · rw [if_neg c125] at H
            have c125b0 : (t265 == 1) = false := beq_eq_false_iff_ne.mpr c125
            have c125b1 : (t265 != 1) = true := bne_iff_ne.mpr c125
            obtain rfl := Option.some.inj H
            have hcz131_0 : wc.cell? ⟨gb260, 0, none⟩ = some (.int .i64 a0_0) := (blk_cell BK260.out 0).trans rfl
            have hcz131_1 : wc.cell? ⟨gb260, 1, none⟩ = some (.int .i64 a0_1) := (blk_cell BK260.out 1).trans rfl
            have hcz131_2 : wc.cell? ⟨gb260, 2, none⟩ = some (.string a0_2) := (blk_cell BK260.out 2).trans rfl
            have hcz131_3 : wc.cell? ⟨gb260, 3, none⟩ = some (.bool a0_3) := (blk_cell BK260.out 3).trans rfl
            have hfz131_0 := blk_frozen BK260.out 0
            have hfz131_1 := blk_frozen BK260.out 1
            have hfz131_2 := blk_frozen BK260.out 2
            have hfz131_3 := blk_frozen BK260.out 3
            go_wp2_with (first | ((with_reducible refine gate_callee (f := 9) rfl ?_); refine goesL_ (some 40) rfl rfl Try.func9 (by kernel_rfl) rfl #[.slice none 0 0, .agg #[.int .i64 a0_0, .int .i64 a0_1, .string a0_2, .bool a0_3]] rfl (by (try simp only [List.map_toArray, List.map_cons, List.map_nil]); first | done | rfl | (simp only [List.length_drop, List.length_take]; rfl)) ?_; (refine (value_Put.calls (fun k_ => some k_ = (.slice none 0 0 : Value).ownBlock) (.slice none 0 0) ([] : List Int) a0_0 a0_1 a0_2 a0_3 t262 t265 w _ ?side1 ?side2 A12.out).mono ?_); (case side1 => repeat (first | (with_reducible first | exact HB.out | apply below_alloc | apply pw_below_drewN | apply below_drew1 | refine below_set ?_ GE260.out) | exact HB.out)); (case side2 => exact Kd.R_nil _ _ _ _ _); rintro e w132 ⟨v263, rfl, ho0, hb, hkp⟩; refine ⟨_, rfl, ?_⟩; have n0_ := Aside0.mk (blk_kept (by (with_reducible repeat (first | refine blk_drewN ?_ _ | refine blk_drew ?_ | refine blk_alloc ?_ _)); exact BK260.out) hkp (fun hs_ => (fun e_ => by simp [Value.ownBlock] at e_) hs_)); have n1_ := Aside0.mk (Kd.R_mono (ok' := fun k_ => True) ho0 (fun k_ hk_ => trivial)); have n2_ := Aside0.mk (hb); clear BK260; clear HB; have BK260 := n0_; have HO264 := n1_; have HB := n2_; clear n0_ n1_ n2_; (try clear hb); (try clear hkp); (try clear ho0); have hcz133_0 : w132.cell? ⟨gb260, 0, none⟩ = some (.int .i64 a0_0) := (blk_cell BK260.out 0).trans rfl; have hcz133_1 : w132.cell? ⟨gb260, 1, none⟩ = some (.int .i64 a0_1) := (blk_cell BK260.out 1).trans rfl; have hcz133_2 : w132.cell? ⟨gb260, 2, none⟩ = some (.string a0_2) := (blk_cell BK260.out 2).trans rfl; have hcz133_3 : w132.cell? ⟨gb260, 3, none⟩ = some (.bool a0_3) := (blk_cell BK260.out 3).trans rfl; have hfz133_0 := blk_frozen BK260.out 0; have hfz133_1 := blk_frozen BK260.out 1; have hfz133_2 := blk_frozen BK260.out 2; have hfz133_3 := blk_frozen BK260.out 3) | ((with_reducible refine gate_callee (f := 12) rfl ?_); refine goesL_ (some 44) rfl rfl Try.func12 (by kernel_rfl) rfl #[.agg #[.int .i64 a0_0, .int .i64 a0_1, .string a0_2, .bool a0_3]] rfl (by (try simp only [List.map_toArray, List.map_cons, List.map_nil]); first | done | rfl | (simp only [List.length_drop, List.length_take]; rfl)) ?_; (with_reducible refine (value_May.calls a0_0 a0_1 a0_2 a0_3 false _ A13.out).mono ?_); rintro e w134 ⟨rfl, hb⟩; refine ⟨_, rfl, ?_⟩; have n0_ := Aside0.mk (Kd.R_below (by (with_reducible repeat (first | apply Kd.R_alloc | apply Kd.R_drewN | apply Kd.R_drew)); exact HO264.out) hb); have n1_ := Aside0.mk (blk_below (g := gb260) (o := .cells #[.int .i64 a0_0, .int .i64 a0_1, .string a0_2, .bool a0_3] 23 (0, 0)) (by (with_reducible repeat (first | refine blk_drewN ?_ _ | refine blk_drew ?_ | refine blk_alloc ?_ _)); exact BK260.out) hb); have n2_ := Aside0.mk (below_step (by repeat (first | (with_reducible first | exact HB.out | apply below_alloc | apply pw_below_drewN | apply below_drew1 | refine below_set ?_ GE260.out) | exact HB.out)) hb); clear HO264; clear BK260; clear HB; have HO264 := n0_; have BK260 := n1_; have HB := n2_; clear n0_ n1_ n2_; (try clear hb); (try clear hb2); (try clear hk); (try clear hi)))
            go_ret
            exact ⟨by first | rfl | (simp [errW_none, errW_some] <;> rfl) | (refine congrArg (fun b_ : Bool => Ending.returned (Value.bool b_)) ?_; simp; done) | (simp [*, errW_none, errW_some] <;> rfl), by repeat (first | (with_reducible first | exact HB.out | apply below_alloc | apply pw_below_drewN | apply below_drew1 | refine below_set ?_ GE260.out) | exact HB.out)⟩

/-- THE ONE PURE STATEMENT of winnowerlaw06_ValueBack: yours. -/
def winnowerlaw06_ValueBack.Pure : Prop := ∀ (a0_0 : Int) (a0_1 : Int) (a0_2 : ByteArray) (a0_3 : Bool) (l1 : List Int) (a2 : Int), (Lit.int .i64 a0_0).wf = true → (Lit.int .i64 a0_1).wf = true → a0_2.size ≤ maxLen → l1.length ≤ maxLen → l1.length * 1 ≤ 140737488351232 → (∀ x ∈ l1, (Lit.int .u8 x).wf = true) → (Lit.int .i64 a2).wf = true → ∃ k, winnowerlaw06_ValueBack.f k a0_0 a0_1 a0_2 a0_3 l1 a2 = some true
theorem winnowerlaw06_ValueBack.walk (P : winnowerlaw06_ValueBack.Pure) (a0_0 : Int) (a0_1 : Int) (a0_2 : ByteArray) (a0_3 : Bool) (a1 : Option Addr) (len1 cap1 : Nat) (z1 : List Int) (a2 : Int) (w : World) (w0_0 : (Lit.int .i64 a0_0).wf = true) (w0_1 : (Lit.int .i64 a0_1).wf = true) (w0_2 : a0_2.size ≤ maxLen) (w1 : (a1 = none ∧ len1 = 0 ∧ cap1 = 0 ∧ z1 = []) ∨ ∃ x, a1 = some x ∧ len1 ≤ cap1 ∧ cap1 ≤ maxLen ∧ z1.length = cap1 ∧ (∀ i, i < z1.length → w.cell? (x.add i) = some (.int .u8 (z1.getD i 0))) ∧ ∀ n ∈ z1, (Lit.int .u8 n).wf = true) (y1 : len1 * 1 ≤ 140737488351232) (w2 : (Lit.int .i64 a2).wf = true) :
    Calls Try.prog 6 #[.agg #[.int .i64 a0_0, .int .i64 a0_1, .string a0_2, .bool a0_3], .slice a1 len1 cap1, .int .i64 a2] w fun e w' => e = .returned (.bool true) ∧ Below w.heap.size w w' := by
  obtain ⟨l1, rfl, hr1, hm1, hw1, hc1⟩ := ReadsInt.ofRowC w1
  obtain ⟨k, h⟩ := P a0_0 a0_1 a0_2 a0_3 l1 a2 w0_0 w0_1 w0_2 hm1 y1 hw1 w2
  refine (winnowerlaw06_ValueBack.calls k a0_0 a0_1 a0_2 a0_3 _ _ l1 a2 true w (Kd.C_of_reads (d := (0 : Int)) (h1 := fun _ => rfl) hr1) hc1 h).mono ?_
  rintro e w' ⟨rfl, hd⟩
  exact ⟨rfl, hd⟩

end Go.Proofs.Ytakiclhafkhjcaa.U
