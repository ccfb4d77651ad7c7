/- The machine side of laws, written by wip/tools/myprint.py (the printer's way, with functions proved by hand put in); Lean checks it. Chapter 22: what a fetch's taking answers, in plain words. Chapter 22: IntakeTakes answers true. -/
import Derived.Test.YtimomihjghefdaaDoorJ1
import Derived.Test.YtimomihjghefdaaDoorJ7
import Derived.Test.YtimomihjghefdaaDoorQx11
import Derived.Test.YtimomihjghefdaaDoorQx12
import Derived.Test.YtimomihjghefdaaDoorJ8
import Derived.Test.YtimomihjghefdaaDoorJ6
import Derived.Test.YtimomihjghefdaaDoorQx24
import Derived.Test.YtimomihjghefdaaDoorJ0
import Derived.Test.YtimomihjghefdaaDoorJ5
import Derived.Test.YtimomihjghefdaaDoorQx17
namespace Go.Proofs.YtimomihjghefdaaDoor.Q
open Go.RowKit Go.Proofs.YtimomihjghefdaaDoorW.PrintWords Go.Proofs.YtimomihjghefdaaDoorW.PrintLast Go.Proofs.YtimomihjghefdaaDoorW.PrintMore
attribute [local go_sem] z0y z0v z0z z10 z0s z0t z0w z0x   -- for this text's walks alone
set_option linter.unusedVariables false
set_option linter.unusedSimpArgs false

/-! ### winnowerref22_Next: function 14 -/
def winnowerref22_Next.f (k : Nat) (a0 : Int) (a1_0 : Int) (a1_1 : Int) (l1_2 : List (List Int)) : Option (Int) := (winnowerref22_Check.f k a0 a1_0 a1_1 l1_2).bind fun t294 => (if t294 = 0 then (if (wrap64 (a1_1 + (l1_2.length : Int))) < a0 then (some a0) else (some (wrap64 (a1_1 + (l1_2.length : Int))))) else (some a0))
set_option maxHeartbeats 8000000 in
set_option maxRecDepth 100000 in
theorem winnowerref22_Next.calls (k : Nat) (a0 : Int) (a1_0 : Int) (a1_1 : Int) (A1_2 : Option Addr) (c1_2 : Nat) (l1_2 : List (List Int)) (r : Int) (w : World) (hr1_2 : Kd.C (Kd.slice 5 (Kd.int .u8)) w A1_2 l1_2.length l1_2) (hc1_2 : l1_2.length ≤ c1_2) (h : winnowerref22_Next.f k a0 a1_0 a1_1 l1_2 = some r) :
    Calls Tryd.prog 14 #[.int .i64 a0, .agg #[.int .i64 a1_0, .int .i64 a1_1, .slice A1_2 l1_2.length c1_2]] w fun e w' => e = .returned (.int .i64 r) ∧ Below w.heap.size w w' := by
  have hu27 := Tryd.underlying27
  have HR1_2 := z05.mk hr1_2
  have HC1_2 := z05.mk hc1_2
  clear hr1_2 hc1_2
  have HB := z05.mk (Below.refl w.heap.size w)
  have H : ((winnowerref22_Check.f k a0 a1_0 a1_1 l1_2).bind fun t294 => (if t294 = 0 then (if (wrap64 (a1_1 + (l1_2.length : Int))) < a0 then (some a0) else (some (wrap64 (a1_1 + (l1_2.length : Int))))) else (some a0))) = some r := h
  clear h
  replace H := Option.bind_eq_some_iff.mp H
  obtain ⟨t294, A30, H⟩ := H
  replace H : (if t294 = 0 then (if (wrap64 (a1_1 + (l1_2.length : Int))) < a0 then (some a0) else (some (wrap64 (a1_1 + (l1_2.length : Int))))) else (some a0)) = some r := H
  have A3 := z05.mk A30
  clear A30
  by_cases c4 : t294 = 0
  · rw [if_pos c4] at H
    have c4b0 : (t294 == 0) = true := beq_iff_eq.mpr c4
    have c4b1 : (t294 != 0) = false := bne_eq_false_iff_eq.mpr c4
    clear c4
    by_cases c5 : (wrap64 (a1_1 + (l1_2.length : Int))) < a0
    · rw [if_pos c5] at H
      have c5b0 : decide ((wrap64 (a1_1 + (l1_2.length : Int))) < a0) = true := decide_eq_true c5
      clear c5
      obtain rfl := Option.some.inj H
      go_enter Tryd.func14, Tryd.ntmps14
      go_wp2_with (first | ((with_reducible refine z0h (N := 3) rfl ?_); (try (refine z0r (by rfl) ?_; dsimp only)); refine z0g ?hg (N := 3) ?hd (cs := #[.int .i64 a1_0, .int .i64 a1_1, .slice A1_2 l1_2.length c1_2]) (t := 27) ?hr ?_; (case hd => rfl); (case hg => rfl); (case hr => first | (go_simp; done) | (go_simp; rfl)); intro gb293 hg w6 hbox hb; have n0_ := z05.mk (z0a (by repeat (first | (with_reducible first | exact HB.out | apply z02 | apply z00 | apply z03) | exact HB.out)) hb); have n1_ := z05.mk (hbox); have n2_ := z05.mk ((by rw [hg]; exact (z0b (by repeat (first | (with_reducible first | exact HB.out | apply z02 | apply z00 | apply z03) | exact HB.out))) : w.heap.size ≤ gb293)); have n3_ := z05.mk ((by rw [hg]; exact (z0b (by repeat (first | (with_reducible first | exact HB.out | apply z02 | apply z00 | apply z03) | exact HB.out))) : w.heap.size ≤ gb293)); clear HB; have HB := n0_; have BK293 := n1_; have GW293 := n2_; have GE293 := n3_; clear n0_ n1_ n2_ n3_; clear hb hbox hg; have hcz7_0 : w6.cell? ⟨gb293, 0, none⟩ = some (.int .i64 a1_0) := (z04 BK293.out 0).trans rfl; have hcz7_1 : w6.cell? ⟨gb293, 1, none⟩ = some (.int .i64 a1_1) := (z04 BK293.out 1).trans rfl; have hcz7_2 : w6.cell? ⟨gb293, 2, none⟩ = some (.slice A1_2 l1_2.length c1_2) := (z04 BK293.out 2).trans rfl; have hfz7_0 := z01 BK293.out 0; have hfz7_1 := z01 BK293.out 1; have hfz7_2 := z01 BK293.out 2) | ((with_reducible refine z0j (f := 12) rfl ?_); refine z0u (some 8) rfl rfl Tryd.func12 (by kernel_rfl) rfl #[.int .i64 a0, .agg #[.int .i64 a1_0, .int .i64 a1_1, .slice A1_2 l1_2.length c1_2]] rfl (by (try simp only [List.map_toArray, List.map_cons, List.map_nil]); first | done | rfl | (simp only [List.length_drop, List.length_take]; rfl)) ?_; (with_reducible refine (winnowerref22_Check.calls k a0 a1_0 a1_1 _ _ l1_2 t294 _ ?side1 ?side2 A3.out).mono ?_); (case side1 => repeat (first | exact (Kd.C_below HR1_2.out HB.out) | (with_reducible refine Kd.C_alloc ?_ _) | (with_reducible refine Kd.C_drewN ?_ _) | (with_reducible refine Kd.C_drew ?_))); (case side2 => exact HC1_2.out); rintro e w8 ⟨rfl, hb⟩; refine ⟨_, rfl, ?_⟩; have n0_ := z05.mk (z0e (g := gb293) (o := .cells #[.int .i64 a1_0, .int .i64 a1_1, .slice A1_2 l1_2.length c1_2] 27 (0, 0)) (by (with_reducible repeat (first | refine z07 ?_ _ | refine z08 ?_ | refine z06 ?_ _)); exact BK293.out) hb); have n1_ := z05.mk (z0a (by repeat (first | (with_reducible first | exact HB.out | apply z02 | apply z00 | apply z03 | refine z09 ?_ GE293.out) | exact HB.out)) hb); clear BK293; clear HB; have BK293 := n0_; have HB := n1_; clear n0_ n1_; (try clear hb); (try clear hb2); (try clear hk); (try clear hi); have hcz9_0 : w8.cell? ⟨gb293, 0, none⟩ = some (.int .i64 a1_0) := (z04 BK293.out 0).trans rfl; have hcz9_1 : w8.cell? ⟨gb293, 1, none⟩ = some (.int .i64 a1_1) := (z04 BK293.out 1).trans rfl; have hcz9_2 : w8.cell? ⟨gb293, 2, none⟩ = some (.slice A1_2 l1_2.length c1_2) := (z04 BK293.out 2).trans rfl; have hfz9_0 := z01 BK293.out 0; have hfz9_1 := z01 BK293.out 1; have hfz9_2 := z01 BK293.out 2))
      go_ret
      exact ⟨by first | rfl | (simp [z0d, z0c] <;> rfl) | (refine congrArg (fun b_ : Bool => Ending.returned (Value.bool b_)) ?_; simp; done) | (simp [*, z0d, z0c] <;> rfl), by repeat (first | (with_reducible first | exact HB.out | apply z02 | apply z00 | apply z03 | refine z09 ?_ GE293.out) | exact HB.out)⟩
    · rw [if_neg c5] at H
      have c5b0 : decide ((wrap64 (a1_1 + (l1_2.length : Int))) < a0) = false := decide_eq_false c5
      clear c5
      obtain rfl := Option.some.inj H
      go_enter Tryd.func14, Tryd.ntmps14
      go_wp2_with (first | ((with_reducible refine z0h (N := 3) rfl ?_); (try (refine z0r (by rfl) ?_; dsimp only)); refine z0g ?hg (N := 3) ?hd (cs := #[.int .i64 a1_0, .int .i64 a1_1, .slice A1_2 l1_2.length c1_2]) (t := 27) ?hr ?_; (case hd => rfl); (case hg => rfl); (case hr => first | (go_simp; done) | (go_simp; rfl)); intro gb293 hg w10 hbox hb; have n0_ := z05.mk (z0a (by repeat (first | (with_reducible first | exact HB.out | apply z02 | apply z00 | apply z03) | exact HB.out)) hb); have n1_ := z05.mk (hbox); have n2_ := z05.mk ((by rw [hg]; exact (z0b (by repeat (first | (with_reducible first | exact HB.out | apply z02 | apply z00 | apply z03) | exact HB.out))) : w.heap.size ≤ gb293)); have n3_ := z05.mk ((by rw [hg]; exact (z0b (by repeat (first | (with_reducible first | exact HB.out | apply z02 | apply z00 | apply z03) | exact HB.out))) : w.heap.size ≤ gb293)); clear HB; have HB := n0_; have BK293 := n1_; have GW293 := n2_; have GE293 := n3_; clear n0_ n1_ n2_ n3_; clear hb hbox hg; have hcz11_0 : w10.cell? ⟨gb293, 0, none⟩ = some (.int .i64 a1_0) := (z04 BK293.out 0).trans rfl; have hcz11_1 : w10.cell? ⟨gb293, 1, none⟩ = some (.int .i64 a1_1) := (z04 BK293.out 1).trans rfl; have hcz11_2 : w10.cell? ⟨gb293, 2, none⟩ = some (.slice A1_2 l1_2.length c1_2) := (z04 BK293.out 2).trans rfl; have hfz11_0 := z01 BK293.out 0; have hfz11_1 := z01 BK293.out 1; have hfz11_2 := z01 BK293.out 2) | ((with_reducible refine z0j (f := 12) rfl ?_); refine z0u (some 8) rfl rfl Tryd.func12 (by kernel_rfl) rfl #[.int .i64 a0, .agg #[.int .i64 a1_0, .int .i64 a1_1, .slice A1_2 l1_2.length c1_2]] rfl (by (try simp only [List.map_toArray, List.map_cons, List.map_nil]); first | done | rfl | (simp only [List.length_drop, List.length_take]; rfl)) ?_; (with_reducible refine (winnowerref22_Check.calls k a0 a1_0 a1_1 _ _ l1_2 t294 _ ?side1 ?side2 A3.out).mono ?_); (case side1 => repeat (first | exact (Kd.C_below HR1_2.out HB.out) | (with_reducible refine Kd.C_alloc ?_ _) | (with_reducible refine Kd.C_drewN ?_ _) | (with_reducible refine Kd.C_drew ?_))); (case side2 => exact HC1_2.out); rintro e w12 ⟨rfl, hb⟩; refine ⟨_, rfl, ?_⟩; have n0_ := z05.mk (z0e (g := gb293) (o := .cells #[.int .i64 a1_0, .int .i64 a1_1, .slice A1_2 l1_2.length c1_2] 27 (0, 0)) (by (with_reducible repeat (first | refine z07 ?_ _ | refine z08 ?_ | refine z06 ?_ _)); exact BK293.out) hb); have n1_ := z05.mk (z0a (by repeat (first | (with_reducible first | exact HB.out | apply z02 | apply z00 | apply z03 | refine z09 ?_ GE293.out) | exact HB.out)) hb); clear BK293; clear HB; have BK293 := n0_; have HB := n1_; clear n0_ n1_; (try clear hb); (try clear hb2); (try clear hk); (try clear hi); have hcz13_0 : w12.cell? ⟨gb293, 0, none⟩ = some (.int .i64 a1_0) := (z04 BK293.out 0).trans rfl; have hcz13_1 : w12.cell? ⟨gb293, 1, none⟩ = some (.int .i64 a1_1) := (z04 BK293.out 1).trans rfl; have hcz13_2 : w12.cell? ⟨gb293, 2, none⟩ = some (.slice A1_2 l1_2.length c1_2) := (z04 BK293.out 2).trans rfl; have hfz13_0 := z01 BK293.out 0; have hfz13_1 := z01 BK293.out 1; have hfz13_2 := z01 BK293.out 2))
      go_ret
      exact ⟨by first | rfl | (simp [z0d, z0c] <;> rfl) | (refine congrArg (fun b_ : Bool => Ending.returned (Value.bool b_)) ?_; simp; done) | (simp [*, z0d, z0c] <;> rfl), by repeat (first | (with_reducible first | exact HB.out | apply z02 | apply z00 | apply z03 | refine z09 ?_ GE293.out) | exact HB.out)⟩
  · rw [if_neg c4] at H
    have c4b0 : (t294 == 0) = false := beq_eq_false_iff_ne.mpr c4
    have c4b1 : (t294 != 0) = true := bne_iff_ne.mpr c4
    obtain rfl := Option.some.inj H
    go_enter Tryd.func14, Tryd.ntmps14
    go_wp2_with (first | ((with_reducible refine z0h (N := 3) rfl ?_); (try (refine z0r (by rfl) ?_; dsimp only)); refine z0g ?hg (N := 3) ?hd (cs := #[.int .i64 a1_0, .int .i64 a1_1, .slice A1_2 l1_2.length c1_2]) (t := 27) ?hr ?_; (case hd => rfl); (case hg => rfl); (case hr => first | (go_simp; done) | (go_simp; rfl)); intro gb293 hg w14 hbox hb; have n0_ := z05.mk (z0a (by repeat (first | (with_reducible first | exact HB.out | apply z02 | apply z00 | apply z03) | exact HB.out)) hb); have n1_ := z05.mk (hbox); have n2_ := z05.mk ((by rw [hg]; exact (z0b (by repeat (first | (with_reducible first | exact HB.out | apply z02 | apply z00 | apply z03) | exact HB.out))) : w.heap.size ≤ gb293)); have n3_ := z05.mk ((by rw [hg]; exact (z0b (by repeat (first | (with_reducible first | exact HB.out | apply z02 | apply z00 | apply z03) | exact HB.out))) : w.heap.size ≤ gb293)); clear HB; have HB := n0_; have BK293 := n1_; have GW293 := n2_; have GE293 := n3_; clear n0_ n1_ n2_ n3_; clear hb hbox hg; have hcz15_0 : w14.cell? ⟨gb293, 0, none⟩ = some (.int .i64 a1_0) := (z04 BK293.out 0).trans rfl; have hcz15_1 : w14.cell? ⟨gb293, 1, none⟩ = some (.int .i64 a1_1) := (z04 BK293.out 1).trans rfl; have hcz15_2 : w14.cell? ⟨gb293, 2, none⟩ = some (.slice A1_2 l1_2.length c1_2) := (z04 BK293.out 2).trans rfl; have hfz15_0 := z01 BK293.out 0; have hfz15_1 := z01 BK293.out 1; have hfz15_2 := z01 BK293.out 2) | ((with_reducible refine z0j (f := 12) rfl ?_); refine z0u (some 8) rfl rfl Tryd.func12 (by kernel_rfl) rfl #[.int .i64 a0, .agg #[.int .i64 a1_0, .int .i64 a1_1, .slice A1_2 l1_2.length c1_2]] rfl (by (try simp only [List.map_toArray, List.map_cons, List.map_nil]); first | done | rfl | (simp only [List.length_drop, List.length_take]; rfl)) ?_; (with_reducible refine (winnowerref22_Check.calls k a0 a1_0 a1_1 _ _ l1_2 t294 _ ?side1 ?side2 A3.out).mono ?_); (case side1 => repeat (first | exact (Kd.C_below HR1_2.out HB.out) | (with_reducible refine Kd.C_alloc ?_ _) | (with_reducible refine Kd.C_drewN ?_ _) | (with_reducible refine Kd.C_drew ?_))); (case side2 => exact HC1_2.out); rintro e w16 ⟨rfl, hb⟩; refine ⟨_, rfl, ?_⟩; have n0_ := z05.mk (z0e (g := gb293) (o := .cells #[.int .i64 a1_0, .int .i64 a1_1, .slice A1_2 l1_2.length c1_2] 27 (0, 0)) (by (with_reducible repeat (first | refine z07 ?_ _ | refine z08 ?_ | refine z06 ?_ _)); exact BK293.out) hb); have n1_ := z05.mk (z0a (by repeat (first | (with_reducible first | exact HB.out | apply z02 | apply z00 | apply z03 | refine z09 ?_ GE293.out) | exact HB.out)) hb); clear BK293; clear HB; have BK293 := n0_; have HB := n1_; clear n0_ n1_; (try clear hb); (try clear hb2); (try clear hk); (try clear hi)))
    go_ret
    exact ⟨by first | rfl | (simp [z0d, z0c] <;> rfl) | (refine congrArg (fun b_ : Bool => Ending.returned (Value.bool b_)) ?_; simp; done) | (simp [*, z0d, z0c] <;> rfl), by repeat (first | (with_reducible first | exact HB.out | apply z02 | apply z00 | apply z03 | refine z09 ?_ GE293.out) | exact HB.out)⟩

/-! ### winnowerlaw22_IntakeTakes: function 3 -/
def winnowerlaw22_IntakeTakes.j0 : Nat → Int → Bool → Bool → List (S45) → Int → Int → Int → Int → Int → Int → List (List Int) → Option (Bool)
  | 0, _, _, _, _, _, _, _, _, _, _, _ => none
  | k + 1, x1, x7, x29, x296000, x296001, x296002, x296003, x296004, x297000, x297001, x297002 => if x29 = true then (some x7) else ((intake_Take.f x296000 x296001 x296002 x296003 x296004 x1 x297000 x297001 x297002).bind fun bt300 => ((winnowerref22_Take.f k x296000 x296001 x296002 x296003 x296004 x1 x297000 x297001 x297002).bind fun bt304 => ((winnowerref22_Same.f k bt300.1 bt304.1).bind fun t308 => (if t308 = true then (if bt300.2 = bt304.2 then ((intake_Check.f k x1 x297000 x297001 x297002).bind fun t309 => ((winnowerref22_Check.f k x1 x297000 x297001 x297002).bind fun t310 => (if t309 = t310 then ((intake_Next.f k x1 x297000 x297001 x297002).bind fun t311 => ((winnowerref22_Next.f k x1 x297000 x297001 x297002).bind fun t312 => (some (t311 == t312)))) else (some false)))) else (some false)) else (some false)))))
def winnowerlaw22_IntakeTakes.f (k : Nat) (l0_0 : List (S45)) (a0_1 : Int) (a0_2 : Int) (a0_3 : Int) (a0_4 : Int) (a1 : Int) (a2_0 : Int) (a2_1 : Int) (l2_2 : List (List Int)) : Option (Bool) := (winnowerlaw22_awake.f).bind fun t297 => ((winnowerref07_Few.f k l0_0 a0_1 a0_2 a0_3 a0_4).bind fun t298 => ((winnowerref22_Few.f k a2_0 a2_1 l2_2 1100).bind fun t299 => (if t297 = true then (if t298 = true then (winnowerlaw22_IntakeTakes.j0 k a1 t297 (!t299) l0_0 a0_1 a0_2 a0_3 a0_4 a2_0 a2_1 l2_2) else (winnowerlaw22_IntakeTakes.j0 k a1 t297 true l0_0 a0_1 a0_2 a0_3 a0_4 a2_0 a2_1 l2_2)) else (winnowerlaw22_IntakeTakes.j0 k a1 t297 true l0_0 a0_1 a0_2 a0_3 a0_4 a2_0 a2_1 l2_2))))
def winnowerlaw22_IntakeTakes.T9 : Bool × List (List Nat × List Nat) := (true, [([], []), ([0], [0]), ([1], [1]), ([1], [1]), ([2, 3, 1], [1, 2, 3]), ([1, 4], [1, 4]), ([5, 1], [5]), ([6], [6]), ([6], [6]), ([7, 8, 6, 6], [6, 7, 8]), ([6], [6]), ([6], [6]), ([10, 11, 9, 6], [6, 10, 11]), ([9, 12, 6], [6, 9, 12]), ([6, 13], [6, 13]), ([14, 12], [14]), ([15], [15]), ([15], [15]), ([16, 17, 15, 15], [15, 16, 17]), ([15], [15]), ([15], [15]), ([19, 20, 18, 15], [15, 19, 20]), ([18, 21, 15], [15, 18, 21]), ([15, 22], [15, 22]), ([23, 21, 0, 1, 2, 3, 4, 5, 6, 7, 8, 9, 10, 11, 12, 13, 14, 15, 16, 17, 18, 19, 20, 21, 22, 23], [23])])
def winnowerlaw22_IntakeTakes.B9 : List Nat := [0, 1, 3, 3, 15, 31, 63, 127, 127, 511, 127, 127, 4095, 8191, 16383, 32767, 65535, 65535, 262143, 65535, 65535, 2097151, 4194303, 8388607, 16777215]
theorem winnowerlaw22_IntakeTakes.tab9 : rtab .any (opsOf Tryd.f3 9) = winnowerlaw22_IntakeTakes.T9 := by kernel_rfl
theorem winnowerlaw22_IntakeTakes.bits9 : z29 winnowerlaw22_IntakeTakes.T9.2 winnowerlaw22_IntakeTakes.B9 = true := by kernel_rfl
set_option maxHeartbeats 8000000 in
set_option maxRecDepth 100000 in
theorem winnowerlaw22_IntakeTakes.calls (k : Nat) (A0_0 : Option Addr) (c0_0 : Nat) (l0_0 : List (S45)) (a0_1 : Int) (a0_2 : Int) (a0_3 : Int) (a0_4 : Int) (a1 : Int) (a2_0 : Int) (a2_1 : Int) (A2_2 : Option Addr) (c2_2 : Nat) (l2_2 : List (List Int)) (r : Bool) (w : World) (hr0_0 : Kd.C k45 w A0_0 l0_0.length l0_0) (hc0_0 : l0_0.length ≤ c0_0) (hr2_2 : Kd.C (Kd.slice 5 (Kd.int .u8)) w A2_2 l2_2.length l2_2) (hc2_2 : l2_2.length ≤ c2_2) (hG : Globs w) (hT_ : r = true) (h : winnowerlaw22_IntakeTakes.f k l0_0 a0_1 a0_2 a0_3 a0_4 a1 a2_0 a2_1 l2_2 = some r) :
    Calls Tryd.prog 3 #[.agg #[.slice A0_0 l0_0.length c0_0, .int .i64 a0_1, .int .i64 a0_2, .int .i64 a0_3, .int .i64 a0_4], .int .i64 a1, .agg #[.int .i64 a2_0, .int .i64 a2_1, .slice A2_2 l2_2.length c2_2]] w fun e w' => e = .returned (.bool r) ∧ Below w.heap.size w w' := by
  have hu24 := Tryd.underlying24
  have hu27 := Tryd.underlying27
  have HR0_0 := z05.mk hr0_0
  have HC0_0 := z05.mk hc0_0
  clear hr0_0 hc0_0
  have HR2_2 := z05.mk hr2_2
  have HC2_2 := z05.mk hc2_2
  clear hr2_2 hc2_2
  have HGL := z05.mk hG
  clear hG
  have HTRUE := z05.mk hT_
  clear hT_
  have HB := z05.mk (Below.refl w.heap.size w)
  have H : ((winnowerlaw22_awake.f).bind fun t297 => ((winnowerref07_Few.f k l0_0 a0_1 a0_2 a0_3 a0_4).bind fun t298 => ((winnowerref22_Few.f k a2_0 a2_1 l2_2 1100).bind fun t299 => (if t297 = true then (if t298 = true then (winnowerlaw22_IntakeTakes.j0 k a1 t297 (!t299) l0_0 a0_1 a0_2 a0_3 a0_4 a2_0 a2_1 l2_2) else (winnowerlaw22_IntakeTakes.j0 k a1 t297 true l0_0 a0_1 a0_2 a0_3 a0_4 a2_0 a2_1 l2_2)) else (winnowerlaw22_IntakeTakes.j0 k a1 t297 true l0_0 a0_1 a0_2 a0_3 a0_4 a2_0 a2_1 l2_2))))) = some r := h
  clear h
  replace H := Option.bind_eq_some_iff.mp H
  obtain ⟨t297, A40, H⟩ := H
  replace H : ((winnowerref07_Few.f k l0_0 a0_1 a0_2 a0_3 a0_4).bind fun t298 => ((winnowerref22_Few.f k a2_0 a2_1 l2_2 1100).bind fun t299 => (if t297 = true then (if t298 = true then (winnowerlaw22_IntakeTakes.j0 k a1 t297 (!t299) l0_0 a0_1 a0_2 a0_3 a0_4 a2_0 a2_1 l2_2) else (winnowerlaw22_IntakeTakes.j0 k a1 t297 true l0_0 a0_1 a0_2 a0_3 a0_4 a2_0 a2_1 l2_2)) else (winnowerlaw22_IntakeTakes.j0 k a1 t297 true l0_0 a0_1 a0_2 a0_3 a0_4 a2_0 a2_1 l2_2)))) = some r := H
  have A4 := z05.mk A40
  clear A40
  replace H := Option.bind_eq_some_iff.mp H
  obtain ⟨t298, A50, H⟩ := H
  replace H : ((winnowerref22_Few.f k a2_0 a2_1 l2_2 1100).bind fun t299 => (if t297 = true then (if t298 = true then (winnowerlaw22_IntakeTakes.j0 k a1 t297 (!t299) l0_0 a0_1 a0_2 a0_3 a0_4 a2_0 a2_1 l2_2) else (winnowerlaw22_IntakeTakes.j0 k a1 t297 true l0_0 a0_1 a0_2 a0_3 a0_4 a2_0 a2_1 l2_2)) else (winnowerlaw22_IntakeTakes.j0 k a1 t297 true l0_0 a0_1 a0_2 a0_3 a0_4 a2_0 a2_1 l2_2))) = some r := H
  have A5 := z05.mk A50
  clear A50
  replace H := Option.bind_eq_some_iff.mp H
  obtain ⟨t299, A60, H⟩ := H
  replace H : (if t297 = true then (if t298 = true then (winnowerlaw22_IntakeTakes.j0 k a1 t297 (!t299) l0_0 a0_1 a0_2 a0_3 a0_4 a2_0 a2_1 l2_2) else (winnowerlaw22_IntakeTakes.j0 k a1 t297 true l0_0 a0_1 a0_2 a0_3 a0_4 a2_0 a2_1 l2_2)) else (winnowerlaw22_IntakeTakes.j0 k a1 t297 true l0_0 a0_1 a0_2 a0_3 a0_4 a2_0 a2_1 l2_2)) = some r := H
  have A6 := z05.mk A60
  clear A60
  have HC7 := z05.mk H
  clear H
  go_enter Tryd.func3, Tryd.ntmps3
  go_upto_region 4 with (first | ((with_reducible refine z0h (N := 3) rfl ?_); refine z0g ?hg (N := 3) ?hd (cs := #[.slice A0_0 l0_0.length c0_0, .int .i64 a0_1, .int .i64 a0_2, .int .i64 a0_3, .int .i64 a0_4]) (t := 24) ?hr ?_; (case hd => rfl); (case hg => rfl); (case hr => first | (go_simp; done) | (go_simp; rfl)); intro gb295 hg w8 hbox hb; have n0_ := z05.mk (z0a (by repeat (first | (with_reducible first | exact HB.out | apply z02 | apply z00 | apply z03) | exact HB.out)) hb); have n1_ := z05.mk (hbox); have n2_ := z05.mk ((by rw [hg]; exact (z0b (by repeat (first | (with_reducible first | exact HB.out | apply z02 | apply z00 | apply z03) | exact HB.out))) : w.heap.size ≤ gb295)); have n3_ := z05.mk ((by rw [hg]; exact (z0b (by repeat (first | (with_reducible first | exact HB.out | apply z02 | apply z00 | apply z03) | exact HB.out))) : w.heap.size ≤ gb295)); clear HB; have HB := n0_; have BK295 := n1_; have GW295 := n2_; have GE295 := n3_; clear n0_ n1_ n2_ n3_; clear hb hbox hg) | ((with_reducible refine z0h (N := 5) rfl ?_); refine z0g ?hg (N := 5) ?hd (cs := #[.int .i64 a2_0, .int .i64 a2_1, .slice A2_2 l2_2.length c2_2]) (t := 27) ?hr ?_; (case hd => rfl); (case hg => rfl); (case hr => first | (go_simp; done) | (go_simp; rfl)); intro gb296 hg w9 hbox hb; have n0_ := z05.mk (z0e (g := gb295) (o := .cells #[.slice A0_0 l0_0.length c0_0, .int .i64 a0_1, .int .i64 a0_2, .int .i64 a0_3, .int .i64 a0_4] 24 (0, 0)) (by (with_reducible repeat (first | refine z07 ?_ _ | refine z08 ?_ | refine z06 ?_ _)); exact BK295.out) hb); have n1_ := z05.mk (z0a (by repeat (first | (with_reducible first | exact HB.out | apply z02 | apply z00 | apply z03 | refine z09 ?_ GE295.out) | exact HB.out)) hb); have n2_ := z05.mk (hbox); have n3_ := z05.mk ((by rw [hg]; exact (z0b (by repeat (first | (with_reducible first | exact HB.out | apply z02 | apply z00 | apply z03 | refine z09 ?_ GE295.out) | exact HB.out))) : w.heap.size ≤ gb296)); have n4_ := z05.mk ((by rw [hg]; exact (z0b (by repeat (first | (with_reducible first | exact HB.out | apply z02 | apply z00 | apply z03 | refine z09 ?_ GE295.out) | exact HB.out))) : w.heap.size ≤ gb296)); have n5_ := z05.mk ((by rw [hg]; exact Nat.ne_of_lt (z0q (g := gb295) (o := .cells #[.slice A0_0 l0_0.length c0_0, .int .i64 a0_1, .int .i64 a0_2, .int .i64 a0_3, .int .i64 a0_4] 24 (0, 0)) (by (with_reducible repeat (first | refine z07 ?_ _ | refine z08 ?_ | refine z06 ?_ _)); exact BK295.out)) : gb295 ≠ gb296)); have n6_ := z05.mk ((by rw [hg]; exact Nat.ne_of_gt (z0q (g := gb295) (o := .cells #[.slice A0_0 l0_0.length c0_0, .int .i64 a0_1, .int .i64 a0_2, .int .i64 a0_3, .int .i64 a0_4] 24 (0, 0)) (by (with_reducible repeat (first | refine z07 ?_ _ | refine z08 ?_ | refine z06 ?_ _)); exact BK295.out)) : gb296 ≠ gb295)); clear BK295; clear HB; have BK295 := n0_; have HB := n1_; have BK296 := n2_; have GW296 := n3_; have GE296 := n4_; have NB295_296 := n5_; have NB296_295 := n6_; clear n0_ n1_ n2_ n3_ n4_ n5_ n6_; clear hb hbox hg) | ((with_reducible refine z0j (f := 5) rfl ?_); refine z0u (some 15) rfl rfl Tryd.func5 (by kernel_rfl) rfl #[] rfl (by (try simp only [List.map_toArray, List.map_cons, List.map_nil]); first | done | rfl | (simp only [List.length_drop, List.length_take]; rfl)) ?_; (with_reducible refine (winnowerlaw22_awake.calls  t297 _ ?side1 A4.out).mono ?_); (case side1 => exact z1j HGL.out (by repeat (first | (with_reducible first | exact HB.out | apply z02 | apply z00 | apply z03 | refine z09 ?_ GE295.out | refine z09 ?_ GE296.out) | exact HB.out))); rintro e w10 ⟨rfl, hb⟩; refine ⟨_, rfl, ?_⟩; have n0_ := z05.mk (z0e (g := gb295) (o := .cells #[.slice A0_0 l0_0.length c0_0, .int .i64 a0_1, .int .i64 a0_2, .int .i64 a0_3, .int .i64 a0_4] 24 (0, 0)) (by (with_reducible repeat (first | refine z07 ?_ _ | refine z08 ?_ | refine z06 ?_ _)); exact BK295.out) hb); have n1_ := z05.mk (z0e (g := gb296) (o := .cells #[.int .i64 a2_0, .int .i64 a2_1, .slice A2_2 l2_2.length c2_2] 27 (0, 0)) (by (with_reducible repeat (first | refine z07 ?_ _ | refine z08 ?_ | refine z06 ?_ _)); exact BK296.out) hb); have n2_ := z05.mk (z0a (by repeat (first | (with_reducible first | exact HB.out | apply z02 | apply z00 | apply z03 | refine z09 ?_ GE295.out | refine z09 ?_ GE296.out) | exact HB.out)) hb); clear BK295; clear BK296; clear HB; have BK295 := n0_; have BK296 := n1_; have HB := n2_; clear n0_ n1_ n2_; (try clear hb); (try clear hb2); (try clear hk); (try clear hi); have hnb11 := NB295_296.out; have hnc11 := NB296_295.out; have hcz12_0 : w10.cell? ⟨gb295, 0, none⟩ = some (.slice A0_0 l0_0.length c0_0) := (z04 BK295.out 0).trans rfl; have hcz12_1 : w10.cell? ⟨gb295, 1, none⟩ = some (.int .i64 a0_1) := (z04 BK295.out 1).trans rfl; have hcz12_2 : w10.cell? ⟨gb295, 2, none⟩ = some (.int .i64 a0_2) := (z04 BK295.out 2).trans rfl; have hcz12_3 : w10.cell? ⟨gb295, 3, none⟩ = some (.int .i64 a0_3) := (z04 BK295.out 3).trans rfl; have hcz12_4 : w10.cell? ⟨gb295, 4, none⟩ = some (.int .i64 a0_4) := (z04 BK295.out 4).trans rfl; have hfz12_0 := z01 BK295.out 0; have hfz12_1 := z01 BK295.out 1; have hfz12_2 := z01 BK295.out 2; have hfz12_3 := z01 BK295.out 3; have hfz12_4 := z01 BK295.out 4) | ((with_reducible refine z0j (f := 6) rfl ?_); refine z0u (some 17) rfl rfl Tryd.func6 (by kernel_rfl) rfl #[.agg #[.slice A0_0 l0_0.length c0_0, .int .i64 a0_1, .int .i64 a0_2, .int .i64 a0_3, .int .i64 a0_4]] rfl (by (try simp only [List.map_toArray, List.map_cons, List.map_nil]); first | done | rfl | (simp only [List.length_drop, List.length_take]; rfl)) ?_; (with_reducible refine (winnowerref07_Few.calls k _ _ l0_0 a0_1 a0_2 a0_3 a0_4 t298 _ ?side1 ?side2 A5.out).mono ?_); (case side1 => repeat (first | exact (Kd.C_below HR0_0.out HB.out) | (with_reducible refine Kd.C_alloc ?_ _) | (with_reducible refine Kd.C_drewN ?_ _) | (with_reducible refine Kd.C_drew ?_))); (case side2 => exact HC0_0.out); rintro e w13 ⟨rfl, hb⟩; refine ⟨_, rfl, ?_⟩; have n0_ := z05.mk (z0e (g := gb295) (o := .cells #[.slice A0_0 l0_0.length c0_0, .int .i64 a0_1, .int .i64 a0_2, .int .i64 a0_3, .int .i64 a0_4] 24 (0, 0)) (by (with_reducible repeat (first | refine z07 ?_ _ | refine z08 ?_ | refine z06 ?_ _)); exact BK295.out) hb); have n1_ := z05.mk (z0e (g := gb296) (o := .cells #[.int .i64 a2_0, .int .i64 a2_1, .slice A2_2 l2_2.length c2_2] 27 (0, 0)) (by (with_reducible repeat (first | refine z07 ?_ _ | refine z08 ?_ | refine z06 ?_ _)); exact BK296.out) hb); have n2_ := z05.mk (z0a (by repeat (first | (with_reducible first | exact HB.out | apply z02 | apply z00 | apply z03 | refine z09 ?_ GE295.out | refine z09 ?_ GE296.out) | exact HB.out)) hb); clear BK295; clear BK296; clear HB; have BK295 := n0_; have BK296 := n1_; have HB := n2_; clear n0_ n1_ n2_; (try clear hb); (try clear hb2); (try clear hk); (try clear hi); have hcz14_0 : w13.cell? ⟨gb296, 0, none⟩ = some (.int .i64 a2_0) := (z04 BK296.out 0).trans rfl; have hcz14_1 : w13.cell? ⟨gb296, 1, none⟩ = some (.int .i64 a2_1) := (z04 BK296.out 1).trans rfl; have hcz14_2 : w13.cell? ⟨gb296, 2, none⟩ = some (.slice A2_2 l2_2.length c2_2) := (z04 BK296.out 2).trans rfl; have hfz14_0 := z01 BK296.out 0; have hfz14_1 := z01 BK296.out 1; have hfz14_2 := z01 BK296.out 2) | ((with_reducible refine z0j (f := 7) rfl ?_); refine z0u (some 19) rfl rfl Tryd.func7 (by kernel_rfl) rfl #[.agg #[.int .i64 a2_0, .int .i64 a2_1, .slice A2_2 l2_2.length c2_2], .int .i64 1100] rfl (by (try simp only [List.map_toArray, List.map_cons, List.map_nil]); first | done | rfl | (simp only [List.length_drop, List.length_take]; rfl)) ?_; (with_reducible refine (winnowerref22_Few.calls k a2_0 a2_1 _ _ l2_2 1100 t299 _ ?side1 ?side2 A6.out).mono ?_); (case side1 => repeat (first | exact (Kd.C_below HR2_2.out HB.out) | (with_reducible refine Kd.C_alloc ?_ _) | (with_reducible refine Kd.C_drewN ?_ _) | (with_reducible refine Kd.C_drew ?_))); (case side2 => exact HC2_2.out); rintro e w15 ⟨rfl, hb⟩; refine ⟨_, rfl, ?_⟩; have n0_ := z05.mk (z0e (g := gb295) (o := .cells #[.slice A0_0 l0_0.length c0_0, .int .i64 a0_1, .int .i64 a0_2, .int .i64 a0_3, .int .i64 a0_4] 24 (0, 0)) (by (with_reducible repeat (first | refine z07 ?_ _ | refine z08 ?_ | refine z06 ?_ _)); exact BK295.out) hb); have n1_ := z05.mk (z0e (g := gb296) (o := .cells #[.int .i64 a2_0, .int .i64 a2_1, .slice A2_2 l2_2.length c2_2] 27 (0, 0)) (by (with_reducible repeat (first | refine z07 ?_ _ | refine z08 ?_ | refine z06 ?_ _)); exact BK296.out) hb); have n2_ := z05.mk (z0a (by repeat (first | (with_reducible first | exact HB.out | apply z02 | apply z00 | apply z03 | refine z09 ?_ GE295.out | refine z09 ?_ GE296.out) | exact HB.out)) hb); clear BK295; clear BK296; clear HB; have BK295 := n0_; have BK296 := n1_; have HB := n2_; clear n0_ n1_ n2_; (try clear hb); (try clear hb2); (try clear hk); (try clear hi)))
  (try simp only [Act.put, List.setIfInBounds_toArray, List.set_cons_zero, List.set_cons_succ])
  go_cut [29] (fun v29 wc => ∃ (kq : Nat) (x29_6 : Bool), v29 = .bool x29_6 ∧ z05 (winnowerlaw22_IntakeTakes.j0 kq a1 t297 x29_6 l0_0 a0_1 a0_2 a0_3 a0_4 a2_0 a2_1 l2_2 = some r) ∧ z05 (kq ≤ k) ∧ z05 (wc.heap[gb295]? = some (.cells #[(.slice A0_0 l0_0.length c0_0), .int .i64 a0_1, .int .i64 a0_2, .int .i64 a0_3, .int .i64 a0_4] 24 (0, 0))) ∧ z05 (wc.heap[gb296]? = some (.cells #[.int .i64 a2_0, .int .i64 a2_1, (.slice A2_2 l2_2.length c2_2)] 27 (0, 0))) ∧ z05 (Below w.heap.size w wc))
  case first =>
    have H := HC7.out
    clear HC7
    by_cases c16 : t297 = true
    · subst c16
      have H1 : (if t298 = true then (winnowerlaw22_IntakeTakes.j0 k a1 true (!t299) l0_0 a0_1 a0_2 a0_3 a0_4 a2_0 a2_1 l2_2) else (winnowerlaw22_IntakeTakes.j0 k a1 true true l0_0 a0_1 a0_2 a0_3 a0_4 a2_0 a2_1 l2_2)) = some r := by rw [if_pos rfl] at H; exact H
      clear H
      have H := H1
      clear H1
      by_cases c17 : t298 = true
      · subst c17
        have H1 : (winnowerlaw22_IntakeTakes.j0 k a1 true (!t299) l0_0 a0_1 a0_2 a0_3 a0_4 a2_0 a2_1 l2_2) = some r := by rw [if_pos rfl] at H; exact H
        clear H
        have H := H1
        clear H1
        have H' := z05.mk H
        clear H
        go_wp2
        go_meet
        case rel => exact ⟨_, (!t299), (by first | rfl | (simp; done) | (simp [*]; done)), H', ⟨by first | omega | exact Nat.le_refl _⟩, ⟨by (with_reducible repeat (first | refine z07 ?_ _ | refine z08 ?_ | refine z06 ?_ _)); exact BK295.out⟩, ⟨by (with_reducible repeat (first | refine z07 ?_ _ | refine z08 ?_ | refine z06 ?_ _)); exact BK296.out⟩, ⟨by repeat (first | (with_reducible first | exact HB.out | apply z02 | apply z00 | apply z03 | refine z09 ?_ GE295.out | refine z09 ?_ GE296.out) | exact HB.out)⟩⟩
      · replace c17 := Bool.eq_false_iff.mpr c17
        subst c17
        have H1 : (winnowerlaw22_IntakeTakes.j0 k a1 true true l0_0 a0_1 a0_2 a0_3 a0_4 a2_0 a2_1 l2_2) = some r := by rw [if_neg (show ¬ (false = true) by decide)] at H; exact H
        clear H
        have H := H1
        clear H1
        have H' := z05.mk H
        clear H
        go_wp2
        go_meet
        case rel => exact ⟨_, (true), (by first | rfl | (simp; done) | (simp [*]; done)), H', ⟨by first | omega | exact Nat.le_refl _⟩, ⟨by (with_reducible repeat (first | refine z07 ?_ _ | refine z08 ?_ | refine z06 ?_ _)); exact BK295.out⟩, ⟨by (with_reducible repeat (first | refine z07 ?_ _ | refine z08 ?_ | refine z06 ?_ _)); exact BK296.out⟩, ⟨by repeat (first | (with_reducible first | exact HB.out | apply z02 | apply z00 | apply z03 | refine z09 ?_ GE295.out | refine z09 ?_ GE296.out) | exact HB.out)⟩⟩
    · replace c16 := Bool.eq_false_iff.mpr c16
      subst c16
      have H1 : (winnowerlaw22_IntakeTakes.j0 k a1 false true l0_0 a0_1 a0_2 a0_3 a0_4 a2_0 a2_1 l2_2) = some r := by rw [if_neg (show ¬ (false = true) by decide)] at H; exact H
      clear H
      have H := H1
      clear H1
      have H' := z05.mk H
      clear H
      go_wp2
      go_meet
      case rel => exact ⟨_, (true), (by first | rfl | (simp; done) | (simp [*]; done)), H', ⟨by first | omega | exact Nat.le_refl _⟩, ⟨by (with_reducible repeat (first | refine z07 ?_ _ | refine z08 ?_ | refine z06 ?_ _)); exact BK295.out⟩, ⟨by (with_reducible repeat (first | refine z07 ?_ _ | refine z08 ?_ | refine z06 ?_ _)); exact BK296.out⟩, ⟨by repeat (first | (with_reducible first | exact HB.out | apply z02 | apply z00 | apply z03 | refine z09 ?_ GE295.out | refine z09 ?_ GE296.out) | exact HB.out)⟩⟩
  case rest =>
    clear HC7
    try clear c1
    try clear c2
    try clear p2
    try clear c3
    try clear c5
    try clear c6
    try clear c7
    try clear c11
    try clear c16
    try clear c17
    try clear hcz12_0
    try clear hcz12_1
    try clear hcz12_2
    try clear hcz12_3
    try clear hcz12_4
    try clear hcz14_0
    try clear hcz14_1
    try clear hcz14_2
    try clear hfz12_0
    try clear hfz12_1
    try clear hfz12_2
    try clear hfz12_3
    try clear hfz12_4
    try clear hfz14_0
    try clear hfz14_1
    try clear hfz14_2
    obtain ⟨kq, x29_6, rfl, HA, HJ6, BK295, BK296, HB⟩ := hcut
    cases kq with
    | zero => exact absurd HA.out (by simp [winnowerlaw22_IntakeTakes.j0])
    | succ kj6 =>
      have H := HA.out
      clear HA
      simp only [winnowerlaw22_IntakeTakes.j0] at H
      by_cases c18 : x29_6 = true
      · subst c18
        have H1 : (some t297) = some r := by rw [if_pos rfl] at H; exact H
        clear H
        have H := H1
        clear H1
        obtain rfl := Option.some.inj H
        go_wp2
        go_ret
        exact ⟨by first | rfl | (simp [z0d, z0c] <;> rfl) | (refine congrArg (fun b_ : Bool => Ending.returned (Value.bool b_)) ?_; simp; done) | (simp [*, z0d, z0c] <;> rfl), by repeat (first | (with_reducible first | exact HB.out | apply z02 | apply z00 | apply z03 | refine z09 ?_ GE295.out | refine z09 ?_ GE296.out) | exact HB.out)⟩
      · replace c18 := Bool.eq_false_iff.mpr c18
        subst c18
        have H1 : ((intake_Take.f l0_0 a0_1 a0_2 a0_3 a0_4 a1 a2_0 a2_1 l2_2).bind fun bt300 => ((winnowerref22_Take.f kj6 l0_0 a0_1 a0_2 a0_3 a0_4 a1 a2_0 a2_1 l2_2).bind fun bt304 => ((winnowerref22_Same.f kj6 bt300.1 bt304.1).bind fun t308 => (if t308 = true then (if bt300.2 = bt304.2 then ((intake_Check.f kj6 a1 a2_0 a2_1 l2_2).bind fun t309 => ((winnowerref22_Check.f kj6 a1 a2_0 a2_1 l2_2).bind fun t310 => (if t309 = t310 then ((intake_Next.f kj6 a1 a2_0 a2_1 l2_2).bind fun t311 => ((winnowerref22_Next.f kj6 a1 a2_0 a2_1 l2_2).bind fun t312 => (some (t311 == t312)))) else (some false)))) else (some false)) else (some false))))) = some r := by rw [if_neg (show ¬ (false = true) by decide)] at H; exact H
        clear H
        have H := H1
        clear H1
        replace H := Option.bind_eq_some_iff.mp H
        obtain ⟨⟨t300, t303⟩, A190, H⟩ := H
        replace H : ((winnowerref22_Take.f kj6 l0_0 a0_1 a0_2 a0_3 a0_4 a1 a2_0 a2_1 l2_2).bind fun bt304 => ((winnowerref22_Same.f kj6 t300 bt304.1).bind fun t308 => (if t308 = true then (if t303 = bt304.2 then ((intake_Check.f kj6 a1 a2_0 a2_1 l2_2).bind fun t309 => ((winnowerref22_Check.f kj6 a1 a2_0 a2_1 l2_2).bind fun t310 => (if t309 = t310 then ((intake_Next.f kj6 a1 a2_0 a2_1 l2_2).bind fun t311 => ((winnowerref22_Next.f kj6 a1 a2_0 a2_1 l2_2).bind fun t312 => (some (t311 == t312)))) else (some false)))) else (some false)) else (some false)))) = some r := H
        have A19 := z05.mk A190
        clear A190
        replace H := Option.bind_eq_some_iff.mp H
        obtain ⟨⟨t304, t307⟩, A200, H⟩ := H
        replace H : ((winnowerref22_Same.f kj6 t300 t304).bind fun t308 => (if t308 = true then (if t303 = t307 then ((intake_Check.f kj6 a1 a2_0 a2_1 l2_2).bind fun t309 => ((winnowerref22_Check.f kj6 a1 a2_0 a2_1 l2_2).bind fun t310 => (if t309 = t310 then ((intake_Next.f kj6 a1 a2_0 a2_1 l2_2).bind fun t311 => ((winnowerref22_Next.f kj6 a1 a2_0 a2_1 l2_2).bind fun t312 => (some (t311 == t312)))) else (some false)))) else (some false)) else (some false))) = some r := H
        have A20 := z05.mk A200
        clear A200
        replace H := Option.bind_eq_some_iff.mp H
        obtain ⟨t308, A210, H⟩ := H
        replace H : (if t308 = true then (if t303 = t307 then ((intake_Check.f kj6 a1 a2_0 a2_1 l2_2).bind fun t309 => ((winnowerref22_Check.f kj6 a1 a2_0 a2_1 l2_2).bind fun t310 => (if t309 = t310 then ((intake_Next.f kj6 a1 a2_0 a2_1 l2_2).bind fun t311 => ((winnowerref22_Next.f kj6 a1 a2_0 a2_1 l2_2).bind fun t312 => (some (t311 == t312)))) else (some false)))) else (some false)) else (some false)) = some r := H
        have A21 := z05.mk A210
        clear A210
        by_cases c22 : t308 = true
        · subst c22
          have H1 : (if t303 = t307 then ((intake_Check.f kj6 a1 a2_0 a2_1 l2_2).bind fun t309 => ((winnowerref22_Check.f kj6 a1 a2_0 a2_1 l2_2).bind fun t310 => (if t309 = t310 then ((intake_Next.f kj6 a1 a2_0 a2_1 l2_2).bind fun t311 => ((winnowerref22_Next.f kj6 a1 a2_0 a2_1 l2_2).bind fun t312 => (some (t311 == t312)))) else (some false)))) else (some false)) = some r := by rw [if_pos rfl] at H; exact H
          clear H
          have H := H1
          clear H1
          by_cases c23 : t303 = t307
          · rw [if_pos c23] at H
            have c23b0 : (t303 == t307) = true := beq_iff_eq.mpr c23
            have c23b1 : (t303 != t307) = false := bne_eq_false_iff_eq.mpr c23
            clear c23
            replace H := Option.bind_eq_some_iff.mp H
            obtain ⟨t309, A240, H⟩ := H
            replace H : ((winnowerref22_Check.f kj6 a1 a2_0 a2_1 l2_2).bind fun t310 => (if t309 = t310 then ((intake_Next.f kj6 a1 a2_0 a2_1 l2_2).bind fun t311 => ((winnowerref22_Next.f kj6 a1 a2_0 a2_1 l2_2).bind fun t312 => (some (t311 == t312)))) else (some false))) = some r := H
            have A24 := z05.mk A240
            clear A240
            replace H := Option.bind_eq_some_iff.mp H
            obtain ⟨t310, A250, H⟩ := H
            replace H : (if t309 = t310 then ((intake_Next.f kj6 a1 a2_0 a2_1 l2_2).bind fun t311 => ((winnowerref22_Next.f kj6 a1 a2_0 a2_1 l2_2).bind fun t312 => (some (t311 == t312)))) else (some false)) = some r := H
            have A25 := z05.mk A250
            clear A250
            by_cases c26 : t309 = t310
            · rw [if_pos c26] at H
              have c26b0 : (t309 == t310) = true := beq_iff_eq.mpr c26
              have c26b1 : (t309 != t310) = false := bne_eq_false_iff_eq.mpr c26
              clear c26
              replace H := Option.bind_eq_some_iff.mp H
              obtain ⟨t311, A270, H⟩ := H
              replace H : ((winnowerref22_Next.f kj6 a1 a2_0 a2_1 l2_2).bind fun t312 => (some (t311 == t312))) = some r := H
              have A27 := z05.mk A270
              clear A270
              replace H := Option.bind_eq_some_iff.mp H
              obtain ⟨t312, A280, H⟩ := H
              replace H : (some (t311 == t312)) = some r := H
              have A28 := z05.mk A280
              clear A280
              obtain rfl := Option.some.inj H
              have hnb29 := NB295_296.out
              have hnc29 := NB296_295.out
              have hcz30_0 : wc.cell? ⟨gb295, 0, none⟩ = some (.slice A0_0 l0_0.length c0_0) := (z04 BK295.out 0).trans rfl
              have hcz30_1 : wc.cell? ⟨gb295, 1, none⟩ = some (.int .i64 a0_1) := (z04 BK295.out 1).trans rfl
              have hcz30_2 : wc.cell? ⟨gb295, 2, none⟩ = some (.int .i64 a0_2) := (z04 BK295.out 2).trans rfl
              have hcz30_3 : wc.cell? ⟨gb295, 3, none⟩ = some (.int .i64 a0_3) := (z04 BK295.out 3).trans rfl
              have hcz30_4 : wc.cell? ⟨gb295, 4, none⟩ = some (.int .i64 a0_4) := (z04 BK295.out 4).trans rfl
              have hfz30_0 := z01 BK295.out 0
              have hfz30_1 := z01 BK295.out 1
              have hfz30_2 := z01 BK295.out 2
              have hfz30_3 := z01 BK295.out 3
              have hfz30_4 := z01 BK295.out 4
              have hcz31_0 : wc.cell? ⟨gb296, 0, none⟩ = some (.int .i64 a2_0) := (z04 BK296.out 0).trans rfl
              have hcz31_1 : wc.cell? ⟨gb296, 1, none⟩ = some (.int .i64 a2_1) := (z04 BK296.out 1).trans rfl
              have hcz31_2 : wc.cell? ⟨gb296, 2, none⟩ = some (.slice A2_2 l2_2.length c2_2) := (z04 BK296.out 2).trans rfl
              have hfz31_0 := z01 BK296.out 0
              have hfz31_1 := z01 BK296.out 1
              have hfz31_2 := z01 BK296.out 2
              try go_wp2_with (first | ((with_reducible refine z0j (f := 8) rfl ?_); refine z0u (some 35) rfl rfl Tryd.func8 (by kernel_rfl) rfl #[.agg #[.slice A0_0 l0_0.length c0_0, .int .i64 a0_1, .int .i64 a0_2, .int .i64 a0_3, .int .i64 a0_4], .int .i64 a1, .agg #[.int .i64 a2_0, .int .i64 a2_1, .slice A2_2 l2_2.length c2_2]] rfl (by (try simp only [List.map_toArray, List.map_cons, List.map_nil]); first | done | rfl | (simp only [List.length_drop, List.length_take]; rfl)) ?_; (with_reducible refine (intake_Take.calls _ _ l0_0 a0_1 a0_2 a0_3 a0_4 a1 a2_0 a2_1 _ _ l2_2 t300 t303 _ ?side1 ?side2 ?side3 ?side4 ?side5 A19.out).mono ?_); (case side1 => repeat (first | exact (Kd.C_below HR0_0.out HB.out) | (with_reducible refine Kd.C_alloc ?_ _) | (with_reducible refine Kd.C_drewN ?_ _) | (with_reducible refine Kd.C_drew ?_))); (case side2 => exact HC0_0.out); (case side3 => repeat (first | exact (Kd.C_below HR2_2.out HB.out) | (with_reducible refine Kd.C_alloc ?_ _) | (with_reducible refine Kd.C_drewN ?_ _) | (with_reducible refine Kd.C_drew ?_))); (case side4 => exact HC2_2.out); (case side5 => exact z1j HGL.out (by repeat (first | (with_reducible first | exact HB.out | apply z02 | apply z00 | apply z03 | refine z09 ?_ GE295.out | refine z09 ?_ GE296.out) | exact HB.out))); rintro e w32 ⟨v301, rfl, ho0, hb⟩; refine ⟨_, rfl, ?_⟩; have n0_ := z05.mk (Kd.S_lower ho0 (z0b (by repeat (first | (with_reducible first | exact HB.out | apply z02 | apply z00 | apply z03 | refine z09 ?_ GE295.out | refine z09 ?_ GE296.out) | exact HB.out)))); have n1_ := z05.mk (z0e (g := gb295) (o := .cells #[.slice A0_0 l0_0.length c0_0, .int .i64 a0_1, .int .i64 a0_2, .int .i64 a0_3, .int .i64 a0_4] 24 (0, 0)) (by (with_reducible repeat (first | refine z07 ?_ _ | refine z08 ?_ | refine z06 ?_ _)); exact BK295.out) hb); have n2_ := z05.mk (z0e (g := gb296) (o := .cells #[.int .i64 a2_0, .int .i64 a2_1, .slice A2_2 l2_2.length c2_2] 27 (0, 0)) (by (with_reducible repeat (first | refine z07 ?_ _ | refine z08 ?_ | refine z06 ?_ _)); exact BK296.out) hb); have n3_ := z05.mk (z0a (by repeat (first | (with_reducible first | exact HB.out | apply z02 | apply z00 | apply z03 | refine z09 ?_ GE295.out | refine z09 ?_ GE296.out) | exact HB.out)) hb); clear BK295; clear BK296; clear HB; have HO302 := n0_; have BK295 := n1_; have BK296 := n2_; have HB := n3_; clear n0_ n1_ n2_ n3_; (try clear hb); (try clear hb2); (try clear hk); (try clear hi); (try clear ho0); have hcz33_0 : w32.cell? ⟨gb295, 0, none⟩ = some (.slice A0_0 l0_0.length c0_0) := (z04 BK295.out 0).trans rfl; have hcz33_1 : w32.cell? ⟨gb295, 1, none⟩ = some (.int .i64 a0_1) := (z04 BK295.out 1).trans rfl; have hcz33_2 : w32.cell? ⟨gb295, 2, none⟩ = some (.int .i64 a0_2) := (z04 BK295.out 2).trans rfl; have hcz33_3 : w32.cell? ⟨gb295, 3, none⟩ = some (.int .i64 a0_3) := (z04 BK295.out 3).trans rfl; have hcz33_4 : w32.cell? ⟨gb295, 4, none⟩ = some (.int .i64 a0_4) := (z04 BK295.out 4).trans rfl; have hfz33_0 := z01 BK295.out 0; have hfz33_1 := z01 BK295.out 1; have hfz33_2 := z01 BK295.out 2; have hfz33_3 := z01 BK295.out 3; have hfz33_4 := z01 BK295.out 4; have hcz34_0 : w32.cell? ⟨gb296, 0, none⟩ = some (.int .i64 a2_0) := (z04 BK296.out 0).trans rfl; have hcz34_1 : w32.cell? ⟨gb296, 1, none⟩ = some (.int .i64 a2_1) := (z04 BK296.out 1).trans rfl; have hcz34_2 : w32.cell? ⟨gb296, 2, none⟩ = some (.slice A2_2 l2_2.length c2_2) := (z04 BK296.out 2).trans rfl; have hfz34_0 := z01 BK296.out 0; have hfz34_1 := z01 BK296.out 1; have hfz34_2 := z01 BK296.out 2) | ((with_reducible refine z0j (f := 9) rfl ?_); refine z0u (some 42) rfl rfl Tryd.func9 (by kernel_rfl) rfl #[.agg #[.slice A0_0 l0_0.length c0_0, .int .i64 a0_1, .int .i64 a0_2, .int .i64 a0_3, .int .i64 a0_4], .int .i64 a1, .agg #[.int .i64 a2_0, .int .i64 a2_1, .slice A2_2 l2_2.length c2_2]] rfl (by (try simp only [List.map_toArray, List.map_cons, List.map_nil]); first | done | rfl | (simp only [List.length_drop, List.length_take]; rfl)) ?_; (with_reducible refine (winnowerref22_Take.calls kj6 _ _ l0_0 a0_1 a0_2 a0_3 a0_4 a1 a2_0 a2_1 _ _ l2_2 t304 t307 _ ?side1 ?side2 ?side3 ?side4 A20.out).mono ?_); (case side1 => repeat (first | exact (Kd.C_below HR0_0.out HB.out) | (with_reducible refine Kd.C_alloc ?_ _) | (with_reducible refine Kd.C_drewN ?_ _) | (with_reducible refine Kd.C_drew ?_))); (case side2 => exact HC0_0.out); (case side3 => repeat (first | exact (Kd.C_below HR2_2.out HB.out) | (with_reducible refine Kd.C_alloc ?_ _) | (with_reducible refine Kd.C_drewN ?_ _) | (with_reducible refine Kd.C_drew ?_))); (case side4 => exact HC2_2.out); rintro e w35 ⟨v305, rfl, ho0, hb⟩; refine ⟨_, rfl, ?_⟩; have n0_ := z05.mk (Kd.S_elder' (by (with_reducible repeat (first | apply Kd.S_alloc | apply Kd.S_drewN | apply Kd.S_drew)); exact HO302.out) (Kd.S_base ho0) hb); have n1_ := z05.mk (Kd.S_lower (Kd.S_new' ho0 (Kd.S_lt (by (with_reducible repeat (first | apply Kd.S_alloc | apply Kd.S_drewN | apply Kd.S_drew)); exact HO302.out))) (z0b (by repeat (first | (with_reducible first | exact HB.out | apply z02 | apply z00 | apply z03 | refine z09 ?_ GE295.out | refine z09 ?_ GE296.out) | exact HB.out)))); have n2_ := z05.mk (z0e (g := gb295) (o := .cells #[.slice A0_0 l0_0.length c0_0, .int .i64 a0_1, .int .i64 a0_2, .int .i64 a0_3, .int .i64 a0_4] 24 (0, 0)) (by (with_reducible repeat (first | refine z07 ?_ _ | refine z08 ?_ | refine z06 ?_ _)); exact BK295.out) hb); have n3_ := z05.mk (z0e (g := gb296) (o := .cells #[.int .i64 a2_0, .int .i64 a2_1, .slice A2_2 l2_2.length c2_2] 27 (0, 0)) (by (with_reducible repeat (first | refine z07 ?_ _ | refine z08 ?_ | refine z06 ?_ _)); exact BK296.out) hb); have n4_ := z05.mk (z0a (by repeat (first | (with_reducible first | exact HB.out | apply z02 | apply z00 | apply z03 | refine z09 ?_ GE295.out | refine z09 ?_ GE296.out) | exact HB.out)) hb); clear HO302; clear BK295; clear BK296; clear HB; have HO302 := n0_; have HO306 := n1_; have BK295 := n2_; have BK296 := n3_; have HB := n4_; clear n0_ n1_ n2_ n3_ n4_; (try clear hb); (try clear hb2); (try clear hk); (try clear hi); (try clear ho0); obtain ⟨Ao36, co36, eo36⟩ := Kd.S_slice HO302.out; subst eo36; obtain ⟨Ao37, co37, eo37⟩ := Kd.S_slice HO306.out; subst eo37) | ((with_reducible refine z0j (f := 10) rfl ?_); refine z0u (some 47) rfl rfl Tryd.func10 (by kernel_rfl) rfl #[.slice Ao36 t300.length co36, .slice Ao37 t304.length co37] rfl (by (try simp only [List.map_toArray, List.map_cons, List.map_nil]); first | done | rfl | (simp only [List.length_drop, List.length_take]; rfl)) ?_; (with_reducible refine (winnowerref22_Same.calls kj6 _ _ t300 _ _ t304 true _ ?side1 ?side2 ?side3 ?side4 A21.out).mono ?_); (case side1 => repeat (first | exact (Kd.S_reads' HO302.out).2.2 | (with_reducible refine Kd.C_alloc ?_ _) | (with_reducible refine Kd.C_drewN ?_ _) | (with_reducible refine Kd.C_drew ?_))); (case side2 => exact (Kd.S_reads' HO302.out).2.1); (case side3 => repeat (first | exact (Kd.S_reads' HO306.out).2.2 | (with_reducible refine Kd.C_alloc ?_ _) | (with_reducible refine Kd.C_drewN ?_ _) | (with_reducible refine Kd.C_drew ?_))); (case side4 => exact (Kd.S_reads' HO306.out).2.1); rintro e w' ⟨rfl, ⟨nd, rfl⟩⟩; refine ⟨_, rfl, ?_⟩))
              (try (rw [z1h w35]; generalize hq_ : World.drewN w35 _ = w35; have n0_ : z05 (Kd.S k41 41 w35 w.heap.size (fun k_ => some k_ ≠ (.slice Ao37 t304.length co37 : Value).ownBlock) (.slice Ao36 t300.length co36) t300) := ⟨by rw [← hq_]; exact (by (with_reducible repeat (first | apply Kd.S_alloc | apply Kd.S_drewN | apply Kd.S_drew)); exact Kd.S_mono HO302.out (fun _ hk => hk.2))⟩; have n1_ : z05 (Kd.S k41 41 w35 w.heap.size (fun k_ => some k_ ≠ (.slice Ao36 t300.length co36 : Value).ownBlock) (.slice Ao37 t304.length co37) t304) := ⟨by rw [← hq_]; exact (by (with_reducible repeat (first | apply Kd.S_alloc | apply Kd.S_drewN | apply Kd.S_drew)); exact Kd.S_mono HO306.out (fun _ hk => hk.2))⟩; have n2_ : z05 (w35.heap[gb295]? = some (.cells #[.slice A0_0 l0_0.length c0_0, .int .i64 a0_1, .int .i64 a0_2, .int .i64 a0_3, .int .i64 a0_4] 24 (0, 0))) := ⟨by rw [← hq_]; exact (by (with_reducible repeat (first | refine z07 ?_ _ | refine z08 ?_ | refine z06 ?_ _)); exact BK295.out)⟩; have n3_ : z05 (w35.heap[gb296]? = some (.cells #[.int .i64 a2_0, .int .i64 a2_1, .slice A2_2 l2_2.length c2_2] 27 (0, 0))) := ⟨by rw [← hq_]; exact (by (with_reducible repeat (first | refine z07 ?_ _ | refine z08 ?_ | refine z06 ?_ _)); exact BK296.out)⟩; have n4_ : z05 (Below w.heap.size w w35) := ⟨by rw [← hq_]; exact (by repeat (first | (with_reducible first | exact HB.out | apply z02 | apply z00 | apply z03 | refine z09 ?_ GE295.out | refine z09 ?_ GE296.out) | exact HB.out))⟩; clear HO302 HO306 BK295 BK296 HB hq_; have HO302 := n0_; have HO306 := n1_; have BK295 := n2_; have BK296 := n3_; have HB := n4_; clear n0_ n1_ n2_ n3_ n4_))
              have n3_ := z05.mk (z08 BK296.out); have n4_ := z05.mk (z03 HB.out); clear HO302; clear HO306; clear BK295; clear BK296; clear HB; have BK296 := n3_; have HB := n4_; clear n3_ n4_
              refine z6f (n := 25) (S := fun w' => w'.cell? ⟨gb296, 0, none⟩ = some (.int .i64 a2_0) ∧ w'.cell? ⟨gb296, 1, none⟩ = some (.int .i64 a2_1) ∧ w'.cell? ⟨gb296, 2, none⟩ = some (.slice A2_2 l2_2.length c2_2)) (ds := []) #[false, false, false, false, false, false, false, false, false, false, false, false, false, false, false, false, false, false, false, false, false, false, false, false, false] (by kernel_rfl) rfl rfl ⟨(z04 BK296.out 0).trans rfl, (z04 BK296.out 1).trans rfl, (z04 BK296.out 2).trans rfl⟩ (fun hHeld => ?_); refine z39 winnowerlaw22_IntakeTakes.tab9 winnowerlaw22_IntakeTakes.bits9 (fun HT_ HW_ => ?_)
              generalize w35.drew = w38 at BK296 HB hHeld ⊢
              refine pure_ (i := 0) (N := some 48) (v := ?_) (a' := ?_) #[true, false, false, false, false, false, false, false, false, false, false, false, false, false, false, false, false, false, false, false, false, false, false, false, false] rfl rfl (z1a HT_.out (by kernel_rfl)) (fun _ _ _ h => h) (Or.inl ⟨by rfl, ?_⟩) ?_ ?_
              rotate_left
              · intro w'
                go_simp
                with_reducible rfl
              rotate_left
              · simp only [Act.put, List.setIfInBounds_toArray, List.set_cons_zero, List.set_cons_succ, i64_w, i32_w]
                rfl
              refine pure_ (i := 1) (N := some 49) (v := ?_) (a' := ?_) #[true, true, false, false, false, false, false, false, false, false, false, false, false, false, false, false, false, false, false, false, false, false, false, false, false] rfl rfl (z1a HT_.out (by kernel_rfl)) (fun _ _ _ h => h) (Or.inl ⟨by rfl, ?_⟩) ?_ ?_
              rotate_left
              · intro w'
                go_simp
                with_reducible rfl
              rotate_left
              · simp only [Act.put, List.setIfInBounds_toArray, List.set_cons_zero, List.set_cons_succ, i64_w, i32_w]
                rfl
              refine pure_ (i := 2) (N := some 50) (v := ?_) (a' := ?_) #[true, true, true, false, false, false, false, false, false, false, false, false, false, false, false, false, false, false, false, false, false, false, false, false, false] rfl rfl (z1a HT_.out (by kernel_rfl)) (fun _ _ _ h => h) (Or.inl ⟨by rfl, ?_⟩) ?_ ?_
              rotate_left
              · intro w'
                go_simp
                with_reducible rfl
              rotate_left
              · simp only [Act.put, List.setIfInBounds_toArray, List.set_cons_zero, List.set_cons_succ, i64_w, i32_w]
                rfl
              refine pure_ (i := 3) (N := some 51) (v := ?_) (a' := ?_) #[true, true, true, true, false, false, false, false, false, false, false, false, false, false, false, false, false, false, false, false, false, false, false, false, false] rfl rfl (z1a HT_.out (by kernel_rfl)) (fun _ _ _ h => h) (Or.inl ⟨by rfl, ?_⟩) ?_ ?_
              rotate_left
              · intro w'
                go_simp
                with_reducible rfl
              rotate_left
              · simp only [Act.put, List.setIfInBounds_toArray, List.set_cons_zero, List.set_cons_succ, i64_w, i32_w]
                rfl
              refine pure_ (i := 4) (N := some 52) (v := ?_) (a' := ?_) #[true, true, true, true, true, false, false, false, false, false, false, false, false, false, false, false, false, false, false, false, false, false, false, false, false] rfl rfl (z1a HT_.out (by kernel_rfl)) (fun _ _ _ h => h) (Or.inl ⟨by rfl, ?_⟩) ?_ ?_
              rotate_left
              · intro w'
                go_simp
                with_reducible rfl
              rotate_left
              · simp only [Act.put, List.setIfInBounds_toArray, List.set_cons_zero, List.set_cons_succ, i64_w, i32_w]
                rfl
              refine pure_ (i := 5) (N := some 53) (v := ?_) (a' := ?_) #[true, true, true, true, true, true, false, false, false, false, false, false, false, false, false, false, false, false, false, false, false, false, false, false, false] rfl rfl (z1a HT_.out (by kernel_rfl)) (fun _ _ _ h => h) (Or.inl ⟨by rfl, ?_⟩) ?_ ?_
              rotate_left
              · intro w'
                go_simp
                with_reducible rfl
              rotate_left
              · simp only [Act.put, List.setIfInBounds_toArray, List.set_cons_zero, List.set_cons_succ, i64_w, i32_w]
                rfl
              refine pure_ (i := 6) (N := some 54) (v := ?_) (a' := ?_) #[true, true, true, true, true, true, true, false, false, false, false, false, false, false, false, false, false, false, false, false, false, false, false, false, false] rfl rfl (z1a HT_.out (by kernel_rfl)) (fun _ _ _ h => h) (Or.inl ⟨by rfl, ?_⟩) ?_ ?_
              rotate_left
              · intro w'
                go_simp
                with_reducible rfl
              rotate_left
              · simp only [Act.put, List.setIfInBounds_toArray, List.set_cons_zero, List.set_cons_succ, i64_w, i32_w]
                rfl
              refine pure_ (i := 7) (N := some 55) (v := ?_) (a' := ?_) #[true, true, true, true, true, true, true, true, false, false, false, false, false, false, false, false, false, false, false, false, false, false, false, false, false] rfl rfl (z1a HT_.out (by kernel_rfl)) (fun _ _ _ h => h) (Or.inl ⟨by rfl, ?_⟩) ?_ ?_
              rotate_left
              · intro w'
                go_simp
                with_reducible rfl
              rotate_left
              · simp only [Act.put, List.setIfInBounds_toArray, List.set_cons_zero, List.set_cons_succ, i64_w, i32_w]
                rfl
              refine pure_ (i := 10) (N := some 58) (v := ?_) (a' := ?_) #[true, true, true, true, true, true, true, true, false, false, true, false, false, false, false, false, false, false, false, false, false, false, false, false, false] rfl rfl (z1a HT_.out (by kernel_rfl)) (fun _ _ _ h => h) (Or.inl ⟨by rfl, ?_⟩) ?_ ?_
              rotate_left
              · intro w'
                go_simp
                with_reducible rfl
              rotate_left
              · simp only [Act.put, List.setIfInBounds_toArray, List.set_cons_zero, List.set_cons_succ, i64_w, i32_w]
                rfl
              refine take_ (i := 8) (N := some 56) (v := ?_) (a' := ?_) #[true, true, true, true, true, true, true, true, true, false, true, false, false, false, false, false, false, false, false, false, false, false, false, false, false] rfl rfl (z1u HT_.out HW_.out (by kernel_rfl)) (fun _ _ _ h => h) (Or.inl ⟨by rfl, ?_⟩) hHeld ?_ ?_
              rotate_left
              · rintro w' ⟨s0, s1, s2⟩
                go_simp
                with_reducible rfl
              rotate_left
              · simp only [Act.put, List.setIfInBounds_toArray, List.set_cons_zero, List.set_cons_succ, i64_w, i32_w]
                rfl
              refine take_ (i := 11) (N := some 59) (v := ?_) (a' := ?_) #[true, true, true, true, true, true, true, true, true, false, true, true, false, false, false, false, false, false, false, false, false, false, false, false, false] rfl rfl (z1u HT_.out HW_.out (by kernel_rfl)) (fun _ _ _ h => h) (Or.inl ⟨by rfl, ?_⟩) hHeld ?_ ?_
              rotate_left
              · rintro w' ⟨s0, s1, s2⟩
                go_simp
                with_reducible rfl
              rotate_left
              · simp only [Act.put, List.setIfInBounds_toArray, List.set_cons_zero, List.set_cons_succ, i64_w, i32_w]
                rfl
              refine one_ (i := 9) (N := some 57) #[true, true, true, true, true, true, true, true, true, true, true, true, false, false, false, false, false, false, false, false, false, false, false, false, false] rfl rfl (z2x HT_.out (by kernel_rfl)) (by decide) (fun K hK => ?_)
              refine goes_ Tryd.func11 (by kernel_rfl) rfl #[.int .i64 a1, .agg #[.int .i64 a2_0, .int .i64 a2_1, .slice A2_2 l2_2.length c2_2]] (by rfl) rfl rfl (by (try simp only [List.map_toArray, List.map_cons, List.map_nil]); first | done | rfl | (simp only [List.length_drop, List.length_take]; rfl)) ?_
              with_reducible refine (intake_Check.calls kj6 a1 a2_0 a2_1 _ _ l2_2 t309 _ ?side1 ?side2 A24.out).mono ?_
              (case side1 => repeat (first | exact (Kd.C_below HR2_2.out HB.out) | (with_reducible refine Kd.C_alloc ?_ _) | (with_reducible refine Kd.C_drewN ?_ _) | (with_reducible refine Kd.C_drew ?_)))
              (case side2 => exact HC2_2.out)
              rintro e w39 ⟨rfl, hb⟩
              refine ⟨_, rfl, ?_⟩
              have n3_ := z05.mk (z0e (g := gb296) (o := .cells #[.int .i64 a2_0, .int .i64 a2_1, .slice A2_2 l2_2.length c2_2] 27 (0, 0)) (by (with_reducible repeat (first | refine z07 ?_ _ | refine z08 ?_ | refine z06 ?_ _)); exact BK296.out) hb); have n4_ := z05.mk (z0a (by repeat (first | (with_reducible first | exact HB.out | apply z02 | apply z00 | apply z03 | refine z09 ?_ GE295.out | refine z09 ?_ GE296.out) | exact HB.out)) hb); clear BK296; clear HB; have BK296 := n3_; have HB := n4_; clear n3_ n4_; (try clear hb); (try clear hb2); (try clear hk); (try clear hi)
              refine hK.out _ _ ⟨(z04 BK296.out 0).trans rfl, (z04 BK296.out 1).trans rfl, (z04 BK296.out 2).trans rfl⟩ (fun hHeld => ?_)
              clear hK K
              refine norm_ (a' := ?_) ?_ ?_
              rotate_left
              · show Act.put _ (some 57) _ = _
                simp only [Act.put, List.setIfInBounds_toArray, List.set_cons_zero, List.set_cons_succ, i64_w, i32_w]
                rfl
              refine one_ (i := 12) (N := some 60) #[true, true, true, true, true, true, true, true, true, true, true, true, true, false, false, false, false, false, false, false, false, false, false, false, false] rfl rfl (z2x HT_.out (by kernel_rfl)) (by decide) (fun K hK => ?_)
              refine goes_ Tryd.func12 (by kernel_rfl) rfl #[.int .i64 a1, .agg #[.int .i64 a2_0, .int .i64 a2_1, .slice A2_2 l2_2.length c2_2]] (by rfl) rfl rfl (by (try simp only [List.map_toArray, List.map_cons, List.map_nil]); first | done | rfl | (simp only [List.length_drop, List.length_take]; rfl)) ?_
              with_reducible refine (winnowerref22_Check.calls kj6 a1 a2_0 a2_1 _ _ l2_2 t310 _ ?side1 ?side2 A25.out).mono ?_
              (case side1 => repeat (first | exact (Kd.C_below HR2_2.out HB.out) | (with_reducible refine Kd.C_alloc ?_ _) | (with_reducible refine Kd.C_drewN ?_ _) | (with_reducible refine Kd.C_drew ?_)))
              (case side2 => exact HC2_2.out)
              rintro e w40 ⟨rfl, hb⟩
              refine ⟨_, rfl, ?_⟩
              have n3_ := z05.mk (z0e (g := gb296) (o := .cells #[.int .i64 a2_0, .int .i64 a2_1, .slice A2_2 l2_2.length c2_2] 27 (0, 0)) (by (with_reducible repeat (first | refine z07 ?_ _ | refine z08 ?_ | refine z06 ?_ _)); exact BK296.out) hb); have n4_ := z05.mk (z0a (by repeat (first | (with_reducible first | exact HB.out | apply z02 | apply z00 | apply z03 | refine z09 ?_ GE295.out | refine z09 ?_ GE296.out) | exact HB.out)) hb); clear BK296; clear HB; have BK296 := n3_; have HB := n4_; clear n3_ n4_; (try clear hb); (try clear hb2); (try clear hk); (try clear hi)
              refine hK.out _ _ ⟨(z04 BK296.out 0).trans rfl, (z04 BK296.out 1).trans rfl, (z04 BK296.out 2).trans rfl⟩ (fun hHeld => ?_)
              clear hK K
              refine norm_ (a' := ?_) ?_ ?_
              rotate_left
              · show Act.put _ (some 60) _ = _
                simp only [Act.put, List.setIfInBounds_toArray, List.set_cons_zero, List.set_cons_succ, i64_w, i32_w]
                rfl
              refine pure_ (i := 13) (N := some 61) (v := ?_) (a' := ?_) #[true, true, true, true, true, true, true, true, true, true, true, true, true, true, false, false, false, false, false, false, false, false, false, false, false] rfl rfl (z1a HT_.out (by kernel_rfl)) (fun _ _ _ h => h) (Or.inl ⟨by rfl, ?_⟩) ?_ ?_
              rotate_left
              · intro w'
                go_simp
                with_reducible rfl
              rotate_left
              · simp only [Act.put, List.setIfInBounds_toArray, List.set_cons_zero, List.set_cons_succ, i64_w, i32_w]
                rfl
              refine pure_ (i := 14) (N := some 62) (v := ?_) (a' := ?_) #[true, true, true, true, true, true, true, true, true, true, true, true, true, true, true, false, false, false, false, false, false, false, false, false, false] rfl rfl (z1a HT_.out (by kernel_rfl)) (fun _ _ _ h => h) (Or.inl ⟨by rfl, ?_⟩) ?_ ?_
              rotate_left
              · intro w'
                go_simp
                with_reducible rfl
              rotate_left
              · simp only [Act.put, List.setIfInBounds_toArray, List.set_cons_zero, List.set_cons_succ, i64_w, i32_w]
                rfl
              refine pure_ (i := 15) (N := some 63) (v := ?_) (a' := ?_) #[true, true, true, true, true, true, true, true, true, true, true, true, true, true, true, true, false, false, false, false, false, false, false, false, false] rfl rfl (z1a HT_.out (by kernel_rfl)) (fun _ _ _ h => h) (Or.inl ⟨by rfl, ?_⟩) ?_ ?_
              rotate_left
              · intro w'
                go_simp
                with_reducible rfl
              rotate_left
              · simp only [Act.put, List.setIfInBounds_toArray, List.set_cons_zero, List.set_cons_succ, i64_w, i32_w]
                rfl
              refine pure_ (i := 16) (N := some 64) (v := ?_) (a' := ?_) #[true, true, true, true, true, true, true, true, true, true, true, true, true, true, true, true, true, false, false, false, false, false, false, false, false] rfl rfl (z1a HT_.out (by kernel_rfl)) (fun _ _ _ h => h) (Or.inl ⟨by rfl, ?_⟩) ?_ ?_
              rotate_left
              · intro w'
                go_simp
                with_reducible rfl
              rotate_left
              · simp only [Act.put, List.setIfInBounds_toArray, List.set_cons_zero, List.set_cons_succ, i64_w, i32_w]
                rfl
              refine pure_ (i := 19) (N := some 67) (v := ?_) (a' := ?_) #[true, true, true, true, true, true, true, true, true, true, true, true, true, true, true, true, true, false, false, true, false, false, false, false, false] rfl rfl (z1a HT_.out (by kernel_rfl)) (fun _ _ _ h => h) (Or.inl ⟨by rfl, ?_⟩) ?_ ?_
              rotate_left
              · intro w'
                go_simp
                with_reducible rfl
              rotate_left
              · simp only [Act.put, List.setIfInBounds_toArray, List.set_cons_zero, List.set_cons_succ, i64_w, i32_w]
                rfl
              refine take_ (i := 17) (N := some 65) (v := ?_) (a' := ?_) #[true, true, true, true, true, true, true, true, true, true, true, true, true, true, true, true, true, true, false, true, false, false, false, false, false] rfl rfl (z1u HT_.out HW_.out (by kernel_rfl)) (fun _ _ _ h => h) (Or.inl ⟨by rfl, ?_⟩) hHeld ?_ ?_
              rotate_left
              · rintro w' ⟨s0, s1, s2⟩
                go_simp
                with_reducible rfl
              rotate_left
              · simp only [Act.put, List.setIfInBounds_toArray, List.set_cons_zero, List.set_cons_succ, i64_w, i32_w]
                rfl
              refine take_ (i := 20) (N := some 68) (v := ?_) (a' := ?_) #[true, true, true, true, true, true, true, true, true, true, true, true, true, true, true, true, true, true, false, true, true, false, false, false, false] rfl rfl (z1u HT_.out HW_.out (by kernel_rfl)) (fun _ _ _ h => h) (Or.inl ⟨by rfl, ?_⟩) hHeld ?_ ?_
              rotate_left
              · rintro w' ⟨s0, s1, s2⟩
                go_simp
                with_reducible rfl
              rotate_left
              · simp only [Act.put, List.setIfInBounds_toArray, List.set_cons_zero, List.set_cons_succ, i64_w, i32_w]
                rfl
              refine one_ (i := 18) (N := some 66) #[true, true, true, true, true, true, true, true, true, true, true, true, true, true, true, true, true, true, true, true, true, false, false, false, false] rfl rfl (z2x HT_.out (by kernel_rfl)) (by decide) (fun K hK => ?_)
              refine goes_ Tryd.func13 (by kernel_rfl) rfl #[.int .i64 a1, .agg #[.int .i64 a2_0, .int .i64 a2_1, .slice A2_2 l2_2.length c2_2]] (by rfl) rfl rfl (by (try simp only [List.map_toArray, List.map_cons, List.map_nil]); first | done | rfl | (simp only [List.length_drop, List.length_take]; rfl)) ?_
              with_reducible refine (intake_Next.calls kj6 a1 a2_0 a2_1 _ _ l2_2 t311 _ ?side1 ?side2 A27.out).mono ?_
              (case side1 => repeat (first | exact (Kd.C_below HR2_2.out HB.out) | (with_reducible refine Kd.C_alloc ?_ _) | (with_reducible refine Kd.C_drewN ?_ _) | (with_reducible refine Kd.C_drew ?_)))
              (case side2 => exact HC2_2.out)
              rintro e w41 ⟨rfl, hb⟩
              refine ⟨_, rfl, ?_⟩
              have n3_ := z05.mk (z0e (g := gb296) (o := .cells #[.int .i64 a2_0, .int .i64 a2_1, .slice A2_2 l2_2.length c2_2] 27 (0, 0)) (by (with_reducible repeat (first | refine z07 ?_ _ | refine z08 ?_ | refine z06 ?_ _)); exact BK296.out) hb); have n4_ := z05.mk (z0a (by repeat (first | (with_reducible first | exact HB.out | apply z02 | apply z00 | apply z03 | refine z09 ?_ GE295.out | refine z09 ?_ GE296.out) | exact HB.out)) hb); clear BK296; clear HB; have BK296 := n3_; have HB := n4_; clear n3_ n4_; (try clear hb); (try clear hb2); (try clear hk); (try clear hi)
              refine hK.out _ _ ⟨(z04 BK296.out 0).trans rfl, (z04 BK296.out 1).trans rfl, (z04 BK296.out 2).trans rfl⟩ (fun hHeld => ?_)
              clear hK K
              refine norm_ (a' := ?_) ?_ ?_
              rotate_left
              · show Act.put _ (some 66) _ = _
                simp only [Act.put, List.setIfInBounds_toArray, List.set_cons_zero, List.set_cons_succ, i64_w, i32_w]
                rfl
              refine one_ (i := 21) (N := some 69) #[true, true, true, true, true, true, true, true, true, true, true, true, true, true, true, true, true, true, true, true, true, true, false, false, false] rfl rfl (z2x HT_.out (by kernel_rfl)) (by decide) (fun K hK => ?_)
              refine goes_ Tryd.func14 (by kernel_rfl) rfl #[.int .i64 a1, .agg #[.int .i64 a2_0, .int .i64 a2_1, .slice A2_2 l2_2.length c2_2]] (by rfl) rfl rfl (by (try simp only [List.map_toArray, List.map_cons, List.map_nil]); first | done | rfl | (simp only [List.length_drop, List.length_take]; rfl)) ?_
              with_reducible refine (winnowerref22_Next.calls kj6 a1 a2_0 a2_1 _ _ l2_2 t312 _ ?side1 ?side2 A28.out).mono ?_
              (case side1 => repeat (first | exact (Kd.C_below HR2_2.out HB.out) | (with_reducible refine Kd.C_alloc ?_ _) | (with_reducible refine Kd.C_drewN ?_ _) | (with_reducible refine Kd.C_drew ?_)))
              (case side2 => exact HC2_2.out)
              rintro e w42 ⟨rfl, hb⟩
              refine ⟨_, rfl, ?_⟩
              have n3_ := z05.mk (z0e (g := gb296) (o := .cells #[.int .i64 a2_0, .int .i64 a2_1, .slice A2_2 l2_2.length c2_2] 27 (0, 0)) (by (with_reducible repeat (first | refine z07 ?_ _ | refine z08 ?_ | refine z06 ?_ _)); exact BK296.out) hb); have n4_ := z05.mk (z0a (by repeat (first | (with_reducible first | exact HB.out | apply z02 | apply z00 | apply z03 | refine z09 ?_ GE295.out | refine z09 ?_ GE296.out) | exact HB.out)) hb); clear BK296; clear HB; have BK296 := n3_; have HB := n4_; clear n3_ n4_; (try clear hb); (try clear hb2); (try clear hk); (try clear hi)
              refine hK.out _ _ ⟨(z04 BK296.out 0).trans rfl, (z04 BK296.out 1).trans rfl, (z04 BK296.out 2).trans rfl⟩ (fun hHeld => ?_)
              clear hK K
              refine norm_ (a' := ?_) ?_ ?_
              rotate_left
              · show Act.put _ (some 69) _ = _
                simp only [Act.put, List.setIfInBounds_toArray, List.set_cons_zero, List.set_cons_succ, i64_w, i32_w]
                rfl
              refine pure_ (i := 22) (N := some 70) (v := ?_) (a' := ?_) #[true, true, true, true, true, true, true, true, true, true, true, true, true, true, true, true, true, true, true, true, true, true, true, false, false] rfl rfl (z1a HT_.out (by kernel_rfl)) (fun _ _ _ h => h) (Or.inl ⟨by rfl, ?_⟩) ?_ ?_
              rotate_left
              · intro w'
                go_simp
                with_reducible rfl
              rotate_left
              · simp only [Act.put, List.setIfInBounds_toArray, List.set_cons_zero, List.set_cons_succ, i64_w, i32_w]
                rfl
              refine pure_ (i := 23) (N := some 71) (v := ?_) (a' := ?_) #[true, true, true, true, true, true, true, true, true, true, true, true, true, true, true, true, true, true, true, true, true, true, true, true, false] rfl rfl (z1a HT_.out (by kernel_rfl)) (fun _ _ _ h => h) (Or.inl ⟨by rfl, ?_⟩) ?_ ?_
              rotate_left
              · intro w'
                go_simp
                with_reducible rfl
              rotate_left
              · simp only [Act.put, List.setIfInBounds_toArray, List.set_cons_zero, List.set_cons_succ, i64_w, i32_w]
                rfl
              refine pure_ (i := 24) (N := some 6) (v := ?_) (a' := ?_) #[true, true, true, true, true, true, true, true, true, true, true, true, true, true, true, true, true, true, true, true, true, true, true, true, true] rfl rfl (z1a HT_.out (by kernel_rfl)) (fun _ _ _ h => h) (Or.inl ⟨by rfl, ?_⟩) ?_ ?_
              rotate_left
              · intro w'
                go_simp
                with_reducible rfl
              rotate_left
              · simp only [Act.put, List.setIfInBounds_toArray, List.set_cons_zero, List.set_cons_succ, i64_w, i32_w]
                rfl
              refine done_ (z4q HT_.out (by kernel_rfl)) ?_
              try go_wp2
              go_ret
              exact ⟨by first | rfl | (simp [z0d, z0c] <;> rfl) | (refine congrArg (fun b_ : Bool => Ending.returned (Value.bool b_)) ?_; simp; done) | (simp [*, z0d, z0c] <;> rfl), by repeat (first | (with_reducible first | exact HB.out | apply z02 | apply z00 | apply z03 | refine z09 ?_ GE295.out | refine z09 ?_ GE296.out) | exact HB.out)⟩
            · rw [if_neg c26] at H
              have c26b0 : (t309 == t310) = false := beq_eq_false_iff_ne.mpr c26
              have c26b1 : (t309 != t310) = true := bne_iff_ne.mpr c26
              exact absurd (HTRUE.out.symm.trans (Option.some.inj H).symm) (by decide)
          · rw [if_neg c23] at H
            have c23b0 : (t303 == t307) = false := beq_eq_false_iff_ne.mpr c23
            have c23b1 : (t303 != t307) = true := bne_iff_ne.mpr c23
            exact absurd (HTRUE.out.symm.trans (Option.some.inj H).symm) (by decide)
        · replace c22 := Bool.eq_false_iff.mpr c22
          subst c22
          have H1 : (some false) = some r := by rw [if_neg (show ¬ (false = true) by decide)] at H; exact H
          clear H
          have H := H1
          clear H1
          exact absurd (HTRUE.out.symm.trans (Option.some.inj H).symm) (by decide)

end Go.Proofs.YtimomihjghefdaaDoor.Q
namespace Go.Proofs.YtimomihjghefdaaDoor.Q
open Go.RowKit Go.Proofs.YtimomihjghefdaaDoorW.PrintWords Go.Proofs.YtimomihjghefdaaDoorW.PrintLast Go.Proofs.YtimomihjghefdaaDoorW.PrintMore
attribute [local go_sem] z0y z0v z0z z10 z0s z0t z0w z0x   -- for this text's walks alone
set_option linter.unusedVariables false
set_option linter.unusedSimpArgs false

-- SAYS Chapter 22: what a fetch's taking answers, in plain words.
-- FUNCS winnower/winnowerref22.Check
-- NEEDS intake_Check.f intake_Next.f intake_in.f intake_Take.f winnowerref22_Check.f winnowerref22_Next.f winnowerref22_Few.f winnowerref22_Same.f schema_May.f schema_Decode.f winnowerref06_Same.f
-- IMPORT Derived.Test.YtimomihjghefdaaDoorHnum
-- IMPORT Derived.Test.YtimomihjghefdaaDoorHval
-- IMPORT Derived.Test.YtimomihjghefdaaDoorHsch22
open Go.Proofs.YtimomihjghefdaaDoor.Hnum Go.Proofs.YtimomihjghefdaaDoor.Hval
/-- What is wrong with a fetch. -/
def chk (n p s m : Int) : Int := if 0 ≤ n ∧ n ≤ 1099511627776 ∧ 0 ≤ s ∧ s ≤ 1099511627776 ∧ 0 ≤ p ∧ p ≤ 3 then (if 1024 < m ∨ 1099511627776 < s + m then 2 else if n < s then 11 else 0) else 1
theorem z52 (a b : Int) : intake_in.f a b = some (decide (0 ≤ a ∧ a ≤ b)) := by
  unfold intake_in.f
  by_cases h : a ≥ 0
  · rw [if_pos h]
    by_cases h2 : a ≤ b
    · rw [decide_eq_true h2, decide_eq_true ⟨h, h2⟩]
    · rw [decide_eq_false h2, decide_eq_false (fun h3 => h2 h3.2)]
  · rw [if_neg h, decide_eq_false (fun h3 => h h3.1)]
theorem chk_j {q : Nat} {n p s : Int} {l : List (List Int)} (h0 : 0 ≤ s) (h1 : s ≤ 1099511627776) : intake_Check.j0 (q + 2) n false p s l = some (if 1024 < (l.length : Int) ∨ 1099511627776 < s + (l.length : Int) then 2 else if n < s then 11 else 0) := by
  rw [intake_Check.j0, if_neg (by decide)]
  by_cases c : (l.length : Int) > 1024
  · rw [if_pos c, decide_eq_true c, intake_Check.j1, if_pos rfl, if_pos (show 1024 < (l.length : Int) ∨ 1099511627776 < s + (l.length : Int) from Or.inl c)]
  · rw [if_neg c, z1c (by omega) (by omega)]
    by_cases d : s + (l.length : Int) > 1099511627776
    · rw [decide_eq_true d, intake_Check.j1, if_pos rfl, if_pos (show 1024 < (l.length : Int) ∨ 1099511627776 < s + (l.length : Int) from Or.inr d)]
    · rw [decide_eq_false d, intake_Check.j1, if_neg (by decide), if_neg (show ¬ (1024 < (l.length : Int) ∨ 1099511627776 < s + (l.length : Int)) by omega)]
      by_cases e : s > n
      · rw [if_pos e, if_pos e]
      · rw [if_neg e, if_neg e]
theorem z6d {q : Nat} {n p s : Int} {l : List (List Int)} : intake_Check.j0 (q + 2) n true p s l = some 1 := by
  rw [intake_Check.j0, if_pos rfl]
theorem z47 {k : Nat} (hk : 2 ≤ k) (n p s : Int) (l : List (List Int)) : intake_Check.f k n p s l = some (chk n p s l.length) := by
  obtain ⟨q, rfl⟩ : ∃ q, k = q + 2 := ⟨k - 2, by omega⟩
  unfold intake_Check.f chk
  rw [z52, Option.bind_some]
  by_cases h1 : 0 ≤ n ∧ n ≤ 1099511627776
  · rw [decide_eq_true h1, if_pos rfl, z52, Option.bind_some]
    by_cases h2 : 0 ≤ s ∧ s ≤ 1099511627776
    · rw [decide_eq_true h2, if_pos rfl, z52, Option.bind_some]
      by_cases h3 : 0 ≤ p ∧ p ≤ 3
      · rw [decide_eq_true h3, show (!true) = false from rfl, chk_j h2.1 h2.2, if_pos (show 0 ≤ n ∧ n ≤ 1099511627776 ∧ 0 ≤ s ∧ s ≤ 1099511627776 ∧ 0 ≤ p ∧ p ≤ 3 by omega)]
      · rw [decide_eq_false h3, show (!false) = true from rfl, z6d, if_neg (show ¬ (0 ≤ n ∧ n ≤ 1099511627776 ∧ 0 ≤ s ∧ s ≤ 1099511627776 ∧ 0 ≤ p ∧ p ≤ 3) by omega)]
    · rw [decide_eq_false h2, if_neg (by decide), show (!false) = true from rfl, z6d, if_neg (show ¬ (0 ≤ n ∧ n ≤ 1099511627776 ∧ 0 ≤ s ∧ s ≤ 1099511627776 ∧ 0 ≤ p ∧ p ≤ 3) by omega)]
  · rw [decide_eq_false h1, if_neg (by decide), show (!false) = true from rfl, z6d, if_neg (show ¬ (0 ≤ n ∧ n ≤ 1099511627776 ∧ 0 ≤ s ∧ s ≤ 1099511627776 ∧ 0 ≤ p ∧ p ≤ 3) by omega)]
theorem z9n {q : Nat} {n p s : Int} {l : List (List Int)} (h0 : 0 ≤ s) (h1 : s ≤ 1099511627776) : winnowerref22_Check.j0 (q + 2) n false p s l = some (if 1024 < (l.length : Int) ∨ 1099511627776 < s + (l.length : Int) then 2 else if n < s then 11 else 0) := by
  rw [winnowerref22_Check.j0, if_neg (by decide)]
  by_cases c : (l.length : Int) > 1024
  · rw [if_pos c, winnowerref22_Check.j1, if_pos rfl, if_pos (show 1024 < (l.length : Int) ∨ 1099511627776 < s + (l.length : Int) from Or.inl c)]
  · rw [if_neg c, z1c (by omega) (by omega)]
    by_cases d : s + (l.length : Int) > 1099511627776
    · rw [decide_eq_true d, winnowerref22_Check.j1, if_pos rfl, if_pos (show 1024 < (l.length : Int) ∨ 1099511627776 < s + (l.length : Int) from Or.inr d)]
    · rw [decide_eq_false d, winnowerref22_Check.j1, if_neg (by decide), if_neg (show ¬ (1024 < (l.length : Int) ∨ 1099511627776 < s + (l.length : Int)) by omega)]
      by_cases e : n < s
      · rw [if_pos e, if_pos e]
      · rw [if_neg e, if_neg e]
theorem z2k {q : Nat} {n p s : Int} {l : List (List Int)} : winnowerref22_Check.j0 (q + 2) n true p s l = some 1 := by
  rw [winnowerref22_Check.j0, if_pos rfl]
theorem z31 {k : Nat} (hk : 2 ≤ k) (n p s : Int) (l : List (List Int)) : winnowerref22_Check.f k n p s l = some (chk n p s l.length) := by
  obtain ⟨q, rfl⟩ : ∃ q, k = q + 2 := ⟨k - 2, by omega⟩
  unfold winnowerref22_Check.f chk
  by_cases h1 : n < 0
  · rw [if_pos h1, z2k, if_neg (show ¬ (0 ≤ n ∧ n ≤ 1099511627776 ∧ 0 ≤ s ∧ s ≤ 1099511627776 ∧ 0 ≤ p ∧ p ≤ 3) by omega)]
  · rw [if_neg h1]
    by_cases h2 : n > 1099511627776
    · rw [if_pos h2, z2k, if_neg (show ¬ (0 ≤ n ∧ n ≤ 1099511627776 ∧ 0 ≤ s ∧ s ≤ 1099511627776 ∧ 0 ≤ p ∧ p ≤ 3) by omega)]
    · rw [if_neg h2]
      by_cases h3 : s < 0
      · rw [if_pos h3, z2k, if_neg (show ¬ (0 ≤ n ∧ n ≤ 1099511627776 ∧ 0 ≤ s ∧ s ≤ 1099511627776 ∧ 0 ≤ p ∧ p ≤ 3) by omega)]
      · rw [if_neg h3]
        by_cases h4 : s > 1099511627776
        · rw [if_pos h4, z2k, if_neg (show ¬ (0 ≤ n ∧ n ≤ 1099511627776 ∧ 0 ≤ s ∧ s ≤ 1099511627776 ∧ 0 ≤ p ∧ p ≤ 3) by omega)]
        · rw [if_neg h4]
          by_cases h5 : p < 0
          · rw [if_pos h5, z2k, if_neg (show ¬ (0 ≤ n ∧ n ≤ 1099511627776 ∧ 0 ≤ s ∧ s ≤ 1099511627776 ∧ 0 ≤ p ∧ p ≤ 3) by omega)]
          · rw [if_neg h5]
            by_cases h6 : p > 3
            · rw [decide_eq_true h6, z2k, if_neg (show ¬ (0 ≤ n ∧ n ≤ 1099511627776 ∧ 0 ≤ s ∧ s ≤ 1099511627776 ∧ 0 ≤ p ∧ p ≤ 3) by omega)]
            · rw [decide_eq_false h6, z9n (by omega) (by omega), if_pos (show 0 ≤ n ∧ n ≤ 1099511627776 ∧ 0 ≤ s ∧ s ≤ 1099511627776 ∧ 0 ≤ p ∧ p ≤ 3 by omega)]
theorem z7i {n p s m : Int} (h : chk n p s m = 0) : 0 ≤ s ∧ s ≤ n ∧ m ≤ 1024 ∧ s + m ≤ 1099511627776 := by
  unfold chk at h
  by_cases c : 0 ≤ n ∧ n ≤ 1099511627776 ∧ 0 ≤ s ∧ s ≤ 1099511627776 ∧ 0 ≤ p ∧ p ≤ 3
  · rw [if_pos c] at h
    by_cases d : 1024 < m ∨ 1099511627776 < s + m
    · rw [if_pos d] at h; omega
    · rw [if_neg d] at h
      by_cases e : n < s
      · rw [if_pos e] at h; omega
      · omega
  · rw [if_neg c] at h; omega
theorem z81 {k : Nat} (hk : 2 ≤ k) (n p s : Int) (l : List (List Int)) : ∃ r, intake_Next.f k n p s l = some r ∧ winnowerref22_Next.f k n p s l = some r := by
  unfold intake_Next.f winnowerref22_Next.f
  rw [z47 hk, z31 hk, Option.bind_some, Option.bind_some]
  by_cases h : chk n p s l.length = 0
  · have := z7i h
    rw [if_pos h, if_pos h]
    refine ⟨_, rfl, ?_⟩
    unfold mx
    by_cases c : wrap64 (s + (l.length : Int)) < n
    · rw [if_pos c]; congr 1; split <;> omega
    · rw [if_neg c]; congr 1; split <;> omega
  · rw [if_neg h, if_neg h]
    exact ⟨n, rfl, rfl⟩
/-- Few records of few bytes. -/
def fewR (most : Int) (l : List (List Int)) : Bool := decide ((l.length : Int) ≤ most) && l.all fun b => decide (b.length ≤ 200)
theorem z88 {l : List (List Int)} {i : Nat} (h : i < l.length) : rd_L1 l (i : Int) = l[i] := by
  unfold rd_L1
  rw [List.getD_eq_getElem?_getD, show ((i : Int)).toNat = i from rfl, List.getElem?_eq_getElem h]; rfl
theorem z6o {l : List (List Int)} (hl : l.length ≤ 1000000) (p s : Int) (q : Nat) : ∀ (d i : Nat), i + d = l.length → winnowerref22_Few.l0 (d + q + 1) (i : Int) p s l = some ((l.drop i).all fun b => decide (b.length ≤ 200))
  | 0, i, hi => by
    rw [winnowerref22_Few.l0, if_neg (by omega), List.drop_eq_nil_of_le (by omega)]; rfl
  | d + 1, i, hi => by
    have h : i < l.length := by omega
    rw [winnowerref22_Few.l0, if_pos (by omega), if_pos (by omega), z88 h, List.drop_eq_getElem_cons h, List.all_cons]
    by_cases c : (l[i].length : Int) > 200
    · rw [if_pos c, decide_eq_false (by omega)]; rfl
    · rw [if_neg c, decide_eq_true (show l[i].length ≤ 200 by omega), wr1 (by omega), show d + 1 + q = d + q + 1 by omega, z6o hl p s q d (i + 1) (by omega)]; rfl
theorem z95 (p s : Int) (l : List (List Int)) (most : Int) (hm : most ≤ 1100) {k : Nat} (hk : 1200 ≤ k) : winnowerref22_Few.f k p s l most = some (fewR most l) := by
  unfold winnowerref22_Few.f fewR
  by_cases h : (l.length : Int) > most
  · rw [if_pos h, decide_eq_false (by omega)]; rfl
  · rw [if_neg h, decide_eq_true (show (l.length : Int) ≤ most by omega)]
    have g := z6o (l := l) (by omega) p s (k - l.length - 1) l.length 0 (by omega)
    rw [show l.length + (k - l.length - 1) + 1 = k by omega] at g
    exact g
theorem z7o {most : Int} {l : List (List Int)} (h : fewR most l = true) : (l.length : Int) ≤ most ∧ ∀ b ∈ l, b.length ≤ 200 := by
  unfold fewR at h
  rw [Bool.and_eq_true, decide_eq_true_eq, List.all_eq_true] at h
  exact ⟨h.1, fun b hb => by simpa using h.2 b hb⟩
theorem z91 {l : List S41} {i : Nat} (h : i < l.length) : z0l l (i : Int) = l[i] := by
  unfold z0l
  rw [List.getD_eq_getElem?_getD, show ((i : Int)).toNat = i from rfl, List.getElem?_eq_getElem h]; rfl
theorem z4d {a : List S41} (hl : a.length ≤ 1000000) (hr : ∀ x ∈ a, x.f2.length ≤ 12) (q : Nat) : ∀ (d i : Nat), i + d = a.length → winnowerref22_Same.l0 (d + q + 20) a a (i : Int) = some true
  | 0, i, hi => by
    rw [show 0 + q + 20 = (q + 19) + 1 by omega, winnowerref22_Same.l0, if_neg (by omega)]
  | d + 1, i, hi => by
    have h : i < a.length := by omega
    rw [show d + 1 + q + 20 = (d + q + 20) + 1 by omega, winnowerref22_Same.l0, if_pos (by omega), if_pos (by omega), if_pos (by omega), z91 h, z4w _ _ (by have := hr a[i] (List.getElem_mem h); omega) (by have := hr a[i] (List.getElem_mem h); omega), Option.bind_some, decide_eq_true rfl, if_pos rfl, if_pos rfl, if_neg (by simp), wr1 (by omega), z4d hl hr q d (i + 1) (by omega)]
theorem z4y {a : List S41} (hl : a.length ≤ 1000000) (hr : ∀ x ∈ a, x.f2.length ≤ 12) {k : Nat} (hk : a.length + 20 ≤ k) : winnowerref22_Same.f k a a = some true := by
  unfold winnowerref22_Same.f
  rw [if_pos rfl]
  have g := z4d hl hr (k - a.length - 20) a.length 0 (by omega)
  rw [show a.length + (k - a.length - 20) + 20 = k by omega] at g
  exact g
/-- What a record's bytes are by a schema: a row as long as the schema's columns, or none and an error. -/
theorem z71 {l : List S45} (hl : l.length ≤ 12) (a1 a2 a3 a4 : Int) {b : List Int} (hb : Bytes b) (hbl : b.length ≤ 900000) : ∃ r e, schema_Decode.f l a1 a2 a3 a4 b = some (r, e) ∧ r.length ≤ 12 ∧ (e ≠ 0 → r = []) := by
  rw [z2v l (by omega)]
  cases hm : mayS l a1 a2 a3 a4 with
  | false => exact ⟨[], 1, rfl, by simp, fun _ => rfl⟩
  | true =>
    rw [if_pos rfl]
    rcases z4j l b [] (z69 hm) hb (by omega) with ⟨e, he, _⟩ | ⟨row, r1, _, _, _, r5⟩
    · exact ⟨[], e, he, by simp, fun _ => rfl⟩
    · exact ⟨row, 0, r5, by omega, fun h => absurd rfl h⟩
theorem z4e {l : List S45} {a1 a2 a3 a4 : Int} : ∀ {ys : List (Int × List Int)}, (∀ y ∈ ys, ∃ r, schema_Decode.f l a1 a2 a3 a4 y.2 = some r) → recR l a1 a2 a3 a4 ys = some (ys.map (recD l a1 a2 a3 a4))
  | [], _ => rfl
  | y :: t, h => by
    obtain ⟨r, hr⟩ := h y (List.mem_cons_self ..)
    unfold recR
    rw [hr, Option.bind_some, z4e (fun z hz => h z (List.mem_cons_of_mem _ hz)), Option.bind_some, List.map_cons, recD, hr]
    rfl
theorem z3y {n s : Int} : ∀ {l : List (List Int)} {i : Nat} {y : Int × List Int}, y ∈ newR n s l i → ∃ j, ∃ h : j < l.length, y = (wrap64 (s + ((i + j : Nat) : Int)), l[j]) ∧ n ≤ y.1
  | [], _, _, h => by cases h
  | b :: t, i, y, h => by
    unfold newR at h
    by_cases c : n ≤ wrap64 (s + (i : Int))
    · rw [if_pos c] at h
      rcases List.mem_cons.mp h with rfl | h
      · exact ⟨0, by simp, by simp, c⟩
      · obtain ⟨j, hj, e, hn⟩ := z3y h
        exact ⟨j + 1, by simp; omega, by rw [e]; simp; congr 2; omega, hn⟩
    · rw [if_neg c] at h
      obtain ⟨j, hj, e, hn⟩ := z3y h
      exact ⟨j + 1, by simp; omega, by rw [e]; simp; congr 2; omega, hn⟩
theorem z5g (n s : Int) : ∀ (l : List (List Int)) (i : Nat), (newR n s l i).length ≤ l.length
  | [], _ => Nat.le_refl _
  | b :: t, i => by
    unfold newR
    have := z5g n s t (i + 1)
    split
    · simp; omega
    · simp; omega
theorem z55 {l : List S45} (hl : l.length ≤ 12) (a1 a2 a3 a4 : Int) {recs : List (List Int)} (hb : ∀ b ∈ recs, Bytes b ∧ b.length ≤ 200) {n s : Int} {i : Nat} : ∀ y ∈ newR n s recs i, ∃ r e, schema_Decode.f l a1 a2 a3 a4 y.2 = some (r, e) ∧ r.length ≤ 12 ∧ (e ≠ 0 → r = []) := by
  intro y hy
  obtain ⟨j, hj, e, _⟩ := z3y hy
  have := hb recs[j] (List.getElem_mem hj)
  rw [e]
  exact z71 hl a1 a2 a3 a4 this.1 (Nat.le_trans this.2 (by omega))
/-- What Take tells. -/
theorem z7d {l : List S45} (hl : l.length ≤ 12) (a1 a2 a3 a4 : Int) {recs : List (List Int)} (hr : recs.length ≤ 1000000) (hb : ∀ b ∈ recs, Bytes b ∧ b.length ≤ 200) (n p s : Int) :
    intake_Take.f l a1 a2 a3 a4 n p s recs = some (if mayS l a1 a2 a3 a4 = true then (if chk n p s recs.length = 0 then ((newR n s recs 0).map (recD l a1 a2 a3 a4), 0) else ([], chk n p s recs.length)) else ([], 1)) := by
  unfold intake_Take.f schema_May.f
  rw [if_pos (by omega), Option.bind_some]
  cases hm : mayS l a1 a2 a3 a4 with
  | false => rfl
  | true =>
    rw [if_pos rfl, if_pos rfl, z47 (by decide), Option.bind_some]
    by_cases h : chk n p s recs.length = 0
    · rw [if_pos h, if_pos h, if_pos hr, z4e (fun y hy => by obtain ⟨r, e, h, _⟩ := z55 hl a1 a2 a3 a4 hb y hy; exact ⟨_, h⟩), Option.bind_some]
    · rw [if_neg h, if_neg h]
theorem z7p {l : List S45} (hl : l.length ≤ 12) (a1 a2 a3 a4 : Int) {recs : List (List Int)} (hb : ∀ b ∈ recs, Bytes b ∧ b.length ≤ 200) {n s : Int} : ∀ x ∈ (newR n s recs 0).map (recD l a1 a2 a3 a4), x.f2.length ≤ 12 ∧ (x.f1 = false → x.f2 = []) := by
  intro x hx
  obtain ⟨y, hy, rfl⟩ := List.mem_map.mp hx
  obtain ⟨r, e, h, h1, h2⟩ := z55 hl a1 a2 a3 a4 hb y hy
  unfold recD
  rw [h]
  exact ⟨h1, fun h3 => h2 (by simpa using h3)⟩

end Go.Proofs.YtimomihjghefdaaDoor.Q
namespace Go.Proofs.YtimomihjghefdaaDoor.Q
open Go.RowKit Go.Proofs.YtimomihjghefdaaDoorW.PrintWords Go.Proofs.YtimomihjghefdaaDoorW.PrintLast Go.Proofs.YtimomihjghefdaaDoorW.PrintMore
attribute [local go_sem] z0y z0v z0z z10 z0s z0t z0w z0x   -- for this text's walks alone
set_option linter.unusedVariables false
set_option linter.unusedSimpArgs false

-- SAYS Chapter 22: IntakeTakes answers true.
-- FUNCS winnower/winnowerlaw22.IntakeTakes
-- NEEDS winnowerlaw22_IntakeTakes.f winnowerlaw22_awake.f intake_Take.f winnowerref22_Take.f intake_Next.f winnowerref22_Next.f winnowerref22_Check.f winnowerref07_May.f schema_Decode.f
-- IMPORT Derived.Test.YtimomihjghefdaaDoorHnum
-- IMPORT Derived.Test.YtimomihjghefdaaDoorHval
-- IMPORT Derived.Test.YtimomihjghefdaaDoorHsch22
-- IMPORT Derived.Test.YtimomihjghefdaaDoorHint22
open Go.Proofs.YtimomihjghefdaaDoor.Hnum Go.Proofs.YtimomihjghefdaaDoor.Hval
theorem z2b {l : List S45} (hl : l.length ≤ 12) (a1 a2 a3 a4 : Int) {recs : List (List Int)} (hr : recs.length ≤ 1100) (hb : ∀ b ∈ recs, Bytes b ∧ b.length ≤ 200) (n p s : Int) (q : Nat) : ∀ (d i : Nat) (acc : List S41), i + d = recs.length → acc.length ≤ i →
    winnowerref22_Take.l0 (d + q + 200) n acc (i : Int) l a1 a2 a3 a4 p s recs = some (acc ++ (newR n s (recs.drop i) i).map (recD l a1 a2 a3 a4), 0)
  | 0, i, acc, hi, ha => by
    rw [show 0 + q + 200 = (q + 199) + 1 by omega, winnowerref22_Take.l0, if_neg (by omega), List.drop_eq_nil_of_le (by omega)]
    simp [newR]
  | d + 1, i, acc, hi, ha => by
    have h : i < recs.length := by omega
    rw [show d + 1 + q + 200 = (d + q + 200) + 1 by omega, winnowerref22_Take.l0, if_pos (by omega), List.drop_eq_getElem_cons h, newR]
    by_cases c : wrap64 (s + (i : Int)) < n
    · rw [if_pos c, if_neg (show ¬ n ≤ wrap64 (s + (i : Int)) by omega), wr1 (by omega), z2b hl a1 a2 a3 a4 hr hb n p s q d (i + 1) acc (by omega) (by omega)]
    · have hbi := hb recs[i] (List.getElem_mem h)
      obtain ⟨r, e, hd, _⟩ := z71 hl a1 a2 a3 a4 hbi.1 (Nat.le_trans hbi.2 (by omega))
      rw [if_neg c, if_pos (show n ≤ wrap64 (s + (i : Int)) by omega), if_pos (by omega), z88 h, z9g hl a1 a2 a3 a4 hbi.1 (Nat.le_trans hbi.2 (by omega)) (by omega), hd, Option.bind_some]
      dsimp only
      rw [if_pos (by omega), wr1 (by omega), z2b hl a1 a2 a3 a4 hr hb n p s q d (i + 1) _ (by omega) (by simp; omega), List.map_cons, recD, hd]
      simp
theorem z80 {l : List S45} (hl : l.length ≤ 12) (a1 a2 a3 a4 : Int) {recs : List (List Int)} (hr : recs.length ≤ 1100) (hb : ∀ b ∈ recs, Bytes b ∧ b.length ≤ 200) (n p s : Int) {k : Nat} (hk : 1400 ≤ k) :
    winnowerref22_Take.f k l a1 a2 a3 a4 n p s recs = some (if mayS l a1 a2 a3 a4 = true then (if chk n p s recs.length = 0 then ((newR n s recs 0).map (recD l a1 a2 a3 a4), 0) else ([], chk n p s recs.length)) else ([], 1)) := by
  unfold winnowerref22_Take.f
  rw [z6e a1 a2 a3 a4 (by omega), Option.bind_some]
  cases hm : mayS l a1 a2 a3 a4 with
  | false => rfl
  | true =>
    rw [if_pos rfl, if_pos rfl, z31 (by omega), Option.bind_some]
    by_cases h : chk n p s recs.length = 0
    · rw [if_pos h, if_pos h]
      have g := z2b hl a1 a2 a3 a4 hr hb n p s (k - recs.length - 200) recs.length 0 [] (by omega) (by simp)
      rw [show recs.length + (k - recs.length - 200) + 200 = k by omega] at g
      exact g
    · rw [if_neg h, if_neg h]
theorem z8t {l : List S45} {a1 a2 a3 a4 n p s : Int} {recs : List (List Int)} (hB : ∀ b ∈ recs, Bytes b) : winnowerlaw22_IntakeTakes.f 2000 l a1 a2 a3 a4 n p s recs = some true := by
  have skip : ∀ k, winnowerlaw22_IntakeTakes.j0 (k + 1) n true true l a1 a2 a3 a4 p s recs = some true := fun k => by rw [winnowerlaw22_IntakeTakes.j0, if_pos rfl]
  unfold winnowerlaw22_IntakeTakes.f
  rw [show winnowerlaw22_awake.f = some true from rfl, Option.bind_some, za0 _ _ _ _ _ (by decide), Option.bind_some, z95 p s recs 1100 (by decide) (by decide), Option.bind_some, if_pos rfl]
  cases hf : fewC l with
  | false => rw [if_neg (by decide)]; exact skip 1999
  | true =>
    rw [if_pos rfl]
    have hl := z7z hf
    cases ha : fewR 1100 recs with
    | false => exact skip 1999
    | true =>
      obtain ⟨hr, h2⟩ := z7o ha
      have hb : ∀ b ∈ recs, Bytes b ∧ b.length ≤ 200 := fun b h => ⟨hB b h, h2 b h⟩
      have hr' : recs.length ≤ 1100 := by omega
      rw [show (!true) = false from rfl, winnowerlaw22_IntakeTakes.j0, if_neg (by decide), z7d hl a1 a2 a3 a4 (by omega) hb n p s, Option.bind_some, z80 hl a1 a2 a3 a4 hr' hb n p s (by decide), Option.bind_some]
      obtain ⟨R, hR⟩ : ∃ R : List S41 × Int, R = (if mayS l a1 a2 a3 a4 = true then (if chk n p s recs.length = 0 then ((newR n s recs 0).map (recD l a1 a2 a3 a4), 0) else ([], chk n p s recs.length)) else ([], 1)) := ⟨_, rfl⟩
      have h3 : R.1.length ≤ 1100 ∧ ∀ x ∈ R.1, x.f2.length ≤ 12 := by
        rw [hR]
        split
        · split
          · exact ⟨by rw [List.length_map]; exact Nat.le_trans (z5g n s recs 0) hr', fun x hx => (z7p hl a1 a2 a3 a4 hb x hx).1⟩
          · exact ⟨by simp, fun x hx => by cases hx⟩
        · exact ⟨by simp, fun x hx => by cases hx⟩
      rw [← hR]
      obtain ⟨r, n1, n2⟩ := z81 (k := 1999) (by decide) n p s recs
      rw [z4y (by omega) h3.2 (by omega), Option.bind_some, if_pos rfl, if_pos rfl, z47 (by decide), Option.bind_some, z31 (by decide), Option.bind_some, if_pos rfl, n1, Option.bind_some, n2, Option.bind_some]
      simp

end Go.Proofs.YtimomihjghefdaaDoor.Q
